/- Layer 4: Write. -/
import Derived.Test.YtdepejneliacpaaGreatDoorRows
import Derived.WalkKit
import Derived.ProofKit
import Derived.OpenShut
import Derived.Handy
import Derived.Deep.LoopGhost
import Derived.Lib.Hide
import Derived.Lib.Strings
import Derived.SizedLaws
import Derived.Maps.Own
import Derived.Maps.OwnOps
import Derived.Maps.OwnSet
import Derived.Maps.RangeWalk
import Derived.Deep.QuietTactic
import Derived.BigQuiet
import Derived.Deep.RegionHeld3
import Derived.Lib.ConvBytes
import Derived.Lib.AppendZeros
import Derived.Lib.AppendZerosOnto
import Derived.Lib.LazyBuf
import Derived.Shelf.Abstract
import Derived.LaidEql
import Derived.Lib.SliceRun
import Derived.StillTailTactics
import Derived.Test.YtdepejneliacpaaGreatDoorPk9
namespace Go.Proofs.YtdepejneliacpaaGreatDoor.dk
open Go.ChangeShapes Go.WideShapes Go.ChangeAt Go.RowKit

section
variable {w w' w1 : World} {p mb : Nat} {wv wv' : Value} {D : DiskS} {F : Nat → Prop}

set_option maxRecDepth 100000 in
set_option maxHeartbeats 8000000 in
theorem Write_putF (n s : ByteArray) (j : Nat) (f : FileS) (w : World) (h : DiskAt w p D F) (hleft : D.left ≤ 9223372036854775807) (hwl : D.waits.length ≤ 1000000) (hsz : D.size ≤ 1000000000) (hs : s.size ≤ 1000000000) (hcap : 0 ≤ D.cap ∧ D.cap ≤ 16777216)
    (hd : D.down = false) (hf : D.find n = some f) (hnow : f.now.size ≤ 1000000000) (hj : j ≤ f.now.size) (t1 : decide (D.cap - D.size < j + s.size - f.now.size) = false) (hbn : D.burns = false) (hs0 : s.size ≠ 0) :
    Calls Tryz.prog 113 #[ptrTo p, .string n, .int .i64 j, .string s] w (OpDone (0, D.burn.put n f j s) p F w) := by
  have Hbn := box hbn
  have he : s.toList.isEmpty = false := by rw [Lib.toList_data, List.isEmpty_eq_false_iff]; intro h; apply hs0; simpa using congrArg List.length h
  clear hbn hs0
  obtain ⟨mb, wv, h, rfl⟩ := h
  have hcalm : Calm w (w.alloc (.cells #[.string n] 9)) := (Calm.refl w).alloc _
  have h1 := h.calm hcalm
  obtain ⟨c0, c1, c2, c3, c4⟩ := h1.cells
  have hlook := h1.look n
  have Hb := box (bars_any (p := p) (mb := mb) (wv := wv) (D := D) (.slice (some ⟨w.heap.size, 0, none⟩) 1 1) [n] (w.alloc (.cells #[.string n] 9)) h1 (StrsAt.one (by go_cell)) (by simp))
  have H1 := box h1
  have Hwl := box hwl
  have Hsz := box hsz
  have Hcap := box hcap
  have Hcalm := box hcalm
  have hh : D.has n = true := by unfold DiskS.has; rw [hf]; rfl
  have hp := ptr_some hf
  obtain ⟨d0, d1, d2, d3⟩ := h1.file hf
  have hfl : f.blk < (w.alloc (.cells #[.string n] 9)).heap.size := heap_lt (h1.files f (find_some hf).1)
  have hb2 := box (show D.bars [n] = 0 by rw [bars_one, hd, hh]; rfl)
  rw [hp] at hlook
  have hj0 : decide ((j : Int) < 0) = false := decide_eq_false (by omega)
  have hj1 : decide ((f.now.size : Int) < j) = false := decide_eq_false (by omega)
  have q1 : IntKind.i64.wrap ((j : Int) + s.size) = j + s.size := IntWalk.i64_in _ (by omega)
  have q2 : IntKind.i64.wrap ((j : Int) + s.size - f.now.size) = j + s.size - f.now.size := IntWalk.i64_in _ (by omega)
  have Hroom := box (fun W (hc : Calm (w.alloc (.cells #[.string n] 9)) W) => Room_any (F := foot p mb wv D) W ⟨mb, wv, H1.out.calm hc, rfl⟩ (by have := Hsz.out; omega) Hcap.out)
  have Hf2 := box (show D.burn.find n = some f by rw [burn_find]; exact hf)
  have Hl := box (fun W => laid_any f.now s j W hnow hs (by omega))
  clear h1 hf hh hd hp hsz hs hnow hwl hcalm h hcap
  go_enter Tryz.func113, Tryz.ntmps113
  go_wp2_with fail
  refine Hb.out.mono ?_
  rw [hb2.out]
  rintro e w' ⟨rfl, rfl⟩
  go_wp2_with fail
  refine wp_region_held_drew (S := fun w' => w'.cell? ⟨f.blk, 1, none⟩ = some (.string f.now)) (by kernel_rfl) (by go_keep) (fun hHeld => ?_)
  ((refine' wpAnyH_take (i := 0) (v := _) rfl (by kernel_rfl) (by kernel_rfl) (by kernel_rfl) (fun _ _ _ h => h) (Or.inl ⟨by rfl, ?hy126⟩) (by assumption) ?rest126; (case hy126 => (intro w hSw; (try dsimp only at hSw); go_simp <;> with_reducible rfl)); simp only [List.getElem_toArray, List.getElem_cons_succ, List.getElem_cons_zero, Act.put, List.setIfInBounds_toArray, List.set_cons_zero, List.set_cons_succ]); (refine' wpAnyH_take (i := 1) (v := _) rfl (by kernel_rfl) (by kernel_rfl) (by kernel_rfl) (fun _ _ _ h => h) (Or.inl ⟨by rfl, ?hy127⟩) (by assumption) ?rest127; (case hy127 => (intro w hSw; (try dsimp only at hSw); go_simp <;> with_reducible rfl)); simp only [List.getElem_toArray, List.getElem_cons_succ, List.getElem_cons_zero, Act.put, List.setIfInBounds_toArray, List.set_cons_zero, List.set_cons_succ]); (refine' wpAnyH_take (i := 2) (v := _) rfl (by kernel_rfl) (by kernel_rfl) (by kernel_rfl) (fun _ _ _ h => h) (Or.inl ⟨by rfl, ?hy128⟩) (by assumption) ?rest128; (case hy128 => (intro w hSw; (try dsimp only at hSw); go_simp <;> with_reducible rfl)); simp only [List.getElem_toArray, List.getElem_cons_succ, List.getElem_cons_zero, Act.put, List.setIfInBounds_toArray, List.set_cons_zero, List.set_cons_succ]); (refine' wpAnyH_take (i := 3) (v := _) rfl (by kernel_rfl) (by kernel_rfl) (by kernel_rfl) (fun _ _ _ h => h) (Or.inl ⟨by rfl, ?hy129⟩) (by assumption) ?rest129; (case hy129 => (intro w hSw; (try dsimp only at hSw); go_simp <;> with_reducible rfl)); simp only [List.getElem_toArray, List.getElem_cons_succ, List.getElem_cons_zero, Act.put, List.setIfInBounds_toArray, List.set_cons_zero, List.set_cons_succ]); (refine' wpAnyH_take (i := 4) (v := _) rfl (by kernel_rfl) (by kernel_rfl) (by kernel_rfl) (fun _ _ _ h => h) (Or.inl ⟨by rfl, ?hy130⟩) (by assumption) ?rest130; (case hy130 => (intro w hSw; (try dsimp only at hSw); go_simp <;> with_reducible rfl)); simp only [List.getElem_toArray, List.getElem_cons_succ, List.getElem_cons_zero, Act.put, List.setIfInBounds_toArray, List.set_cons_zero, List.set_cons_succ]); (refine' wpAnyH_take (i := 5) (v := _) rfl (by kernel_rfl) (by kernel_rfl) (by kernel_rfl) (fun _ _ _ h => h) (Or.inl ⟨by rfl, ?hy131⟩) (by assumption) ?rest131; (case hy131 => (intro w hSw; (try dsimp only at hSw); go_simp <;> with_reducible rfl)); simp only [List.getElem_toArray, List.getElem_cons_succ, List.getElem_cons_zero, Act.put, List.setIfInBounds_toArray, List.set_cons_zero, List.set_cons_succ]); (refine' wpAnyH_take (i := 6) (v := _) rfl (by kernel_rfl) (by kernel_rfl) (by kernel_rfl) (fun _ _ _ h => h) (Or.inl ⟨by rfl, ?hy132⟩) (by assumption) ?rest132; (case hy132 => (intro w hSw; (try dsimp only at hSw); go_simp <;> with_reducible rfl)); simp only [List.getElem_toArray, List.getElem_cons_succ, List.getElem_cons_zero, Act.put, List.setIfInBounds_toArray, List.set_cons_zero, List.set_cons_succ]); (refine' wpAnyH_take (i := 7) (v := _) rfl (by kernel_rfl) (by kernel_rfl) (by kernel_rfl) (fun _ _ _ h => h) (Or.inl ⟨by rfl, ?hy133⟩) (by assumption) ?rest133; (case hy133 => (intro w hSw; (try dsimp only at hSw); go_simp <;> with_reducible rfl)); simp only [List.getElem_toArray, List.getElem_cons_succ, List.getElem_cons_zero, Act.put, List.setIfInBounds_toArray, List.set_cons_zero, List.set_cons_succ]); (refine' wpAnyH_take (i := 8) (v := _) rfl (by kernel_rfl) (by kernel_rfl) (by kernel_rfl) (fun _ _ _ h => h) (Or.inl ⟨by rfl, ?hy134⟩) (by assumption) ?rest134; (case hy134 => (intro w hSw; (try dsimp only at hSw); go_simp <;> with_reducible rfl)); simp only [List.getElem_toArray, List.getElem_cons_succ, List.getElem_cons_zero, Act.put, List.setIfInBounds_toArray, List.set_cons_zero, List.set_cons_succ]); (refine' wpAnyH_take (i := 9) (v := _) rfl (by kernel_rfl) (by kernel_rfl) (by kernel_rfl) (fun _ _ _ h => h) (Or.inl ⟨by rfl, ?hy135⟩) (by assumption) ?rest135; (case hy135 => (intro w hSw; (try dsimp only at hSw); go_simp <;> with_reducible rfl)); simp only [List.getElem_toArray, List.getElem_cons_succ, List.getElem_cons_zero, Act.put, List.setIfInBounds_toArray, List.set_cons_zero, List.set_cons_succ]); (refine' wpAnyH_take (i := 10) (v := _) rfl (by kernel_rfl) (by kernel_rfl) (by kernel_rfl) (fun _ _ _ h => h) (Or.inl ⟨by rfl, ?hy136⟩) (by assumption) ?rest136; (case hy136 => (intro w hSw; (try dsimp only at hSw); go_simp <;> with_reducible rfl)); simp only [List.getElem_toArray, List.getElem_cons_succ, List.getElem_cons_zero, Act.put, List.setIfInBounds_toArray, List.set_cons_zero, List.set_cons_succ]))
  refine wpAnyH_ready (rs := [11]) (by kernel_rfl) (by simp) ?_
  refine AllReadyH.cons rfl (fun K hK => ?_) AllReadyH.nil
  rw [if_pos (by rfl)]
  go_simp
  refine (Hroom.out _ (by (repeat' (first | (with_reducible exact Calm.refl _) | (with_reducible assumption) | (with_reducible refine Calm.drew ?_) | (with_reducible refine Calm.alloc ?_ _) | (with_reducible refine Calm.trans ?_ (by assumption)))))).mono ?_
  rintro e w' ⟨rfl, hb⟩
  go_wp2_with fail
  refine hK.out _ _ ?_ (fun hHeld2 => ?_)
  · show w'.cell? ⟨f.blk, 1, none⟩ = some (.string f.now)
    rw [hb.cell (p := ⟨f.blk, 1, none⟩) hfl]; assumption
  clear hK K
  try simp only [List.getElem_toArray, List.getElem_cons_succ, List.getElem_cons_zero, Act.put, List.setIfInBounds_toArray, List.set_cons_zero, List.set_cons_succ]
  ((refine' wpAnyH_take (i := 12) (v := _) rfl (by kernel_rfl) (by kernel_rfl) (by kernel_rfl) (fun _ _ _ h => h) (Or.inl ⟨by rfl, ?hy137⟩) (by assumption) ?rest137; (case hy137 => (intro w hSw; (try dsimp only at hSw); go_simp <;> with_reducible rfl)); simp only [List.getElem_toArray, List.getElem_cons_succ, List.getElem_cons_zero, Act.put, List.setIfInBounds_toArray, List.set_cons_zero, List.set_cons_succ]); (refine' wpAnyH_take (i := 13) (v := _) rfl (by kernel_rfl) (by kernel_rfl) (by kernel_rfl) (fun _ _ _ h => h) (Or.inl ⟨by rfl, ?hy138⟩) (by assumption) ?rest138; (case hy138 => (intro w hSw; (try dsimp only at hSw); go_simp <;> with_reducible rfl)); simp only [List.getElem_toArray, List.getElem_cons_succ, List.getElem_cons_zero, Act.put, List.setIfInBounds_toArray, List.set_cons_zero, List.set_cons_succ]))
  ((refine' wpAnyH_take (i := 14) (v := _) rfl (by kernel_rfl) (by kernel_rfl) (by kernel_rfl) (fun _ _ _ h => h) (Or.inr ⟨by rfl, rfl⟩) (by assumption) ?rest139; simp only [List.getElem_toArray, List.getElem_cons_succ, List.getElem_cons_zero, Act.put, List.setIfInBounds_toArray, List.set_cons_zero, List.set_cons_succ]); (refine' wpAnyH_take (i := 15) (v := _) rfl (by kernel_rfl) (by kernel_rfl) (by kernel_rfl) (fun _ _ _ h => h) (Or.inr ⟨by rfl, rfl⟩) (by assumption) ?rest140; simp only [List.getElem_toArray, List.getElem_cons_succ, List.getElem_cons_zero, Act.put, List.setIfInBounds_toArray, List.set_cons_zero, List.set_cons_succ]); (refine' wpAnyH_take (i := 16) (v := _) rfl (by kernel_rfl) (by kernel_rfl) (by kernel_rfl) (fun _ _ _ h => h) (Or.inr ⟨by rfl, rfl⟩) (by assumption) ?rest141; simp only [List.getElem_toArray, List.getElem_cons_succ, List.getElem_cons_zero, Act.put, List.setIfInBounds_toArray, List.set_cons_zero, List.set_cons_succ]); (refine' wpAnyH_take (i := 17) (v := _) rfl (by kernel_rfl) (by kernel_rfl) (by kernel_rfl) (fun _ _ _ h => h) (Or.inr ⟨by rfl, rfl⟩) (by assumption) ?rest142; simp only [List.getElem_toArray, List.getElem_cons_succ, List.getElem_cons_zero, Act.put, List.setIfInBounds_toArray, List.set_cons_zero, List.set_cons_succ]); (refine' wpAnyH_take (i := 18) (v := _) rfl (by kernel_rfl) (by kernel_rfl) (by kernel_rfl) (fun _ _ _ h => h) (Or.inr ⟨by rfl, rfl⟩) (by assumption) ?rest143; simp only [List.getElem_toArray, List.getElem_cons_succ, List.getElem_cons_zero, Act.put, List.setIfInBounds_toArray, List.set_cons_zero, List.set_cons_succ]); (refine' wpAnyH_take (i := 19) (v := _) rfl (by kernel_rfl) (by kernel_rfl) (by kernel_rfl) (fun _ _ _ h => h) (Or.inr ⟨by rfl, rfl⟩) (by assumption) ?rest144; simp only [List.getElem_toArray, List.getElem_cons_succ, List.getElem_cons_zero, Act.put, List.setIfInBounds_toArray, List.set_cons_zero, List.set_cons_succ]); (refine' wpAnyH_take (i := 20) (v := _) rfl (by kernel_rfl) (by kernel_rfl) (by kernel_rfl) (fun _ _ _ h => h) (Or.inr ⟨by rfl, rfl⟩) (by assumption) ?rest145; simp only [List.getElem_toArray, List.getElem_cons_succ, List.getElem_cons_zero, Act.put, List.setIfInBounds_toArray, List.set_cons_zero, List.set_cons_succ]); (refine' wpAnyH_take (i := 21) (v := _) rfl (by kernel_rfl) (by kernel_rfl) (by kernel_rfl) (fun _ _ _ h => h) (Or.inr ⟨by rfl, rfl⟩) (by assumption) ?rest146; simp only [List.getElem_toArray, List.getElem_cons_succ, List.getElem_cons_zero, Act.put, List.setIfInBounds_toArray, List.set_cons_zero, List.set_cons_succ]); (refine' wpAnyH_take (i := 22) (v := _) rfl (by kernel_rfl) (by kernel_rfl) (by kernel_rfl) (fun _ _ _ h => h) (Or.inr ⟨by rfl, rfl⟩) (by assumption) ?rest147; simp only [List.getElem_toArray, List.getElem_cons_succ, List.getElem_cons_zero, Act.put, List.setIfInBounds_toArray, List.set_cons_zero, List.set_cons_succ]); (refine' wpAnyH_take (i := 23) (v := _) rfl (by kernel_rfl) (by kernel_rfl) (by kernel_rfl) (fun _ _ _ h => h) (Or.inr ⟨by rfl, rfl⟩) (by assumption) ?rest148; simp only [List.getElem_toArray, List.getElem_cons_succ, List.getElem_cons_zero, Act.put, List.setIfInBounds_toArray, List.set_cons_zero, List.set_cons_succ]))
  ((refine' wpAnyH_take (i := 24) (v := _) rfl (by kernel_rfl) (by kernel_rfl) (by kernel_rfl) (fun _ _ _ h => h) (Or.inl ⟨by rfl, ?hy149⟩) (by assumption) ?rest149; (case hy149 => (intro w hSw; (try dsimp only at hSw); go_simp <;> with_reducible rfl)); simp only [List.getElem_toArray, List.getElem_cons_succ, List.getElem_cons_zero, Act.put, List.setIfInBounds_toArray, List.set_cons_zero, List.set_cons_succ]); (refine' wpAnyH_take (i := 25) (v := _) rfl (by kernel_rfl) (by kernel_rfl) (by kernel_rfl) (fun _ _ _ h => h) (Or.inl ⟨by rfl, ?hy150⟩) (by assumption) ?rest150; (case hy150 => (intro w hSw; (try dsimp only at hSw); go_simp <;> with_reducible rfl)); simp only [List.getElem_toArray, List.getElem_cons_succ, List.getElem_cons_zero, Act.put, List.setIfInBounds_toArray, List.set_cons_zero, List.set_cons_succ]))
  refine wpAnyH_done (by kernel_rfl) ?_ _
  have hcW : Calm (w.alloc (.cells #[.string n] 9)) w' := by (repeat' (first | (with_reducible exact Calm.refl _) | (with_reducible assumption) | (with_reducible refine Calm.drew ?_) | (with_reducible refine Calm.alloc ?_ _) | (with_reducible refine Calm.trans ?_ (by assumption))))
  have HcW := box hcW
  clear hcW
  go_wp2_with fail
  refine (done_any _ (H1.out.calm HcW.out) hleft).mono ?_
  rw [Hbn.out]
  rintro e w2 ⟨rfl, hN⟩
  have HS := box (show Step (foot p mb wv D) w (foot p mb wv D.burn) w2 by rw [foot_burn]; exact (Step.of_calm (Hcalm.out.trans HcW.out)).trans (hN.step (.inl rfl)))
  obtain ⟨g0, g1, g2, g3⟩ := hN.disk.file Hf2.out
  have hfl2 : f.blk < w2.heap.size := heap_lt (hN.disk.files f (find_some Hf2.out).1)
  have HN := box hN
  clear hN
  go_wp2_with fail
  refine (Hl.out _).mono ?_
  rintro e w3 ⟨rfl, hc3⟩
  have hD3 := HN.out.disk.calm hc3
  have hS3 := HS.out.calm hc3
  obtain ⟨g0', g1', g2', g3'⟩ := hD3.file Hf2.out
  have hfl3 : f.blk < w3.heap.size := heap_lt (hD3.files f (find_some Hf2.out).1)
  have hD4 := hD3.written (s := s) Hf2.out j
  have hm4 : f ∈ D.burn.files := (find_some Hf2.out).1
  have hS4 := hS3.trans (show Step (foot p mb wv D.burn) w3 (foot p mb wv D.burn) (w3.setCell ⟨f.blk, 1, none⟩ (.string (laid f.now j s))) from ⟨(Keeps.refl _ w3).setCell (p := ⟨f.blk, 1, none⟩) (.inl (.inr (.inr (.inr (List.mem_map.2 ⟨f, hm4, rfl⟩))))) _, fun _ h => .inl h⟩)
  have hs4 : (w3.setCell ⟨f.blk, 1, none⟩ (.string (laid f.now j s))).heap.size = w3.heap.size := by simp [World.setCell]
  have hD5 := hD4.calm ((Calm.refl _).alloc (.cells #[ptrTo f.blk, .int .i64 j, .string s] 165))
  have hb5 := heap_new (w3.setCell ⟨f.blk, 1, none⟩ (.string (laid f.now j s))) (.cells #[ptrTo f.blk, .int .i64 j, .string s] 165)
  rw [hs4] at hb5
  have hwl5 : (D.burn.turn n (putF j s)).waits.length ≤ 1000000 := by rw [show (D.burn.turn n (putF j s)).waits = D.waits from burn_files.2.1]; exact Hwl.out
  obtain ⟨v', W6, Happ, hrow, hk6, hob⟩ := append_wait _ (D.burn.turn n (putF j s)).waits ⟨f.blk, j, s⟩ w3.heap.size hD5.waits hb5 hwl5 112
  obtain ⟨a', n', cap', rfl⟩ := row_slice hrow
  have hp6 : W6.heap[p]? = some (.cells (diskCells (D.burn.turn n (putF j s)) mb wv) 114 (0, 0)) := (hk6.block p (heap_lt hD5.obj) hD5.p_ne_row).trans hD5.obj
  have k3 : W6.cell? ⟨p, 3, none⟩ = some wv := cell_of hp6 3
  have k4 := free_of hp6 3
  have hpl6 := heap_lt hp6
  have hnew : ∀ g, (Value.slice a' n' cap').ownBlock = some g → wv.ownBlock = some g ∨ ((w3.setCell ⟨f.blk, 1, none⟩ (.string (laid f.now j s))).alloc (.cells #[ptrTo f.blk, .int .i64 j, .string s] 165)).heap.size ≤ g := fun g hg => by
    rcases hob with h | h
    · exact .inl (by rw [← h]; exact hg)
    · rw [h] at hg; cases hg; exact .inr (Nat.le_refl _)
  have hfin := box (hD5.rowTo hk6 hrow hnew (fun x hx => by
    rcases List.mem_append.1 hx with hx | hx
    · exact hD5.live x hx
    · rw [List.mem_singleton] at hx
      subst hx
      refine ⟨putF j s f, ?_, rfl⟩
      unfold DiskS.turn
      exact List.mem_map.2 ⟨f, hm4, if_pos (find_some Hf2.out).2⟩))
  have hS7 := box ((hS4.calm ((Calm.refl _).alloc (.cells #[ptrTo f.blk, .int .i64 j, .string s] 165))).trans (show Step (foot p mb wv D.burn) _ (foot p mb (.slice a' n' cap') (D.burn.put n f j s)) (W6.setCell ⟨p, 3, none⟩ (.slice a' n' cap')) from ⟨(hk6.mono (fun b _ hb => .inr (.inr (.inl hb)))).setCell (p := ⟨p, 3, none⟩) (.inl (.inl rfl)) _, by
    rintro b (hb | hb | hb | hb)
    · exact .inl (.inl hb)
    · exact .inl (.inr (.inl hb))
    · rcases hnew b hb with h | h
      · exact .inl (.inr (.inr (.inl h)))
      · exact .inr h
    · refine .inl (.inr (.inr (.inr ?_)))
      rw [← (turn_same (n := n) (g := putF j s) (fun _ => ⟨rfl, rfl⟩)).2]
      exact hb⟩))
  have Happ := box Happ
  have d3c : w3.cell? ⟨p, 3, none⟩ = some wv := hD3.cells.2.2.2.1
  have hpl3 := heap_lt hD3.obj
  have hpf := hD3.p_ne_file hm4
  clear hD3 hS3 hD4 hS4 hD5 hb5 hrow hk6 hob hnew hp6 hc3 hs4 hwl5
  go_wp2_with (first | (at_builtin; refine Lib.wpList_append_run _ rfl _ _ _ _ rfl _ _ rfl rfl _ _ Happ.out ?_) | fail)
  go_ret
  exact OpDone.of rfl ⟨mb, _, hfin.out, rfl⟩ hS7.out

set_option maxRecDepth 100000 in
set_option maxHeartbeats 8000000 in
theorem Write_putTF (n s : ByteArray) (j : Nat) (f : FileS) (w : World) (h : DiskAt w p D F) (hleft : D.left ≤ 9223372036854775807) (hwl : D.waits.length ≤ 1000000) (hsz : D.size ≤ 1000000000) (hs : s.size ≤ 1000000000) (hcap : 0 ≤ D.cap ∧ D.cap ≤ 16777216)
    (hd : D.down = false) (hf : D.find n = some f) (hnow : f.now.size ≤ 1000000000) (hj : j ≤ f.now.size) (t1 : decide (D.cap - D.size < j + s.size - f.now.size) = true) (t2 : decide ((f.now.size : Int) < j + s.size) = false) (hbn : D.burns = false) (hs0 : s.size ≠ 0) :
    Calls Tryz.prog 113 #[ptrTo p, .string n, .int .i64 j, .string s] w (OpDone (0, D.burn.put n f j s) p F w) := by
  have Hbn := box hbn
  have he : s.toList.isEmpty = false := by rw [Lib.toList_data, List.isEmpty_eq_false_iff]; intro h; apply hs0; simpa using congrArg List.length h
  clear hbn hs0
  obtain ⟨mb, wv, h, rfl⟩ := h
  have hcalm : Calm w (w.alloc (.cells #[.string n] 9)) := (Calm.refl w).alloc _
  have h1 := h.calm hcalm
  obtain ⟨c0, c1, c2, c3, c4⟩ := h1.cells
  have hlook := h1.look n
  have Hb := box (bars_any (p := p) (mb := mb) (wv := wv) (D := D) (.slice (some ⟨w.heap.size, 0, none⟩) 1 1) [n] (w.alloc (.cells #[.string n] 9)) h1 (StrsAt.one (by go_cell)) (by simp))
  have H1 := box h1
  have Hwl := box hwl
  have Hsz := box hsz
  have Hcap := box hcap
  have Hcalm := box hcalm
  have hh : D.has n = true := by unfold DiskS.has; rw [hf]; rfl
  have hp := ptr_some hf
  obtain ⟨d0, d1, d2, d3⟩ := h1.file hf
  have hfl : f.blk < (w.alloc (.cells #[.string n] 9)).heap.size := heap_lt (h1.files f (find_some hf).1)
  have hb2 := box (show D.bars [n] = 0 by rw [bars_one, hd, hh]; rfl)
  rw [hp] at hlook
  have hj0 : decide ((j : Int) < 0) = false := decide_eq_false (by omega)
  have hj1 : decide ((f.now.size : Int) < j) = false := decide_eq_false (by omega)
  have q1 : IntKind.i64.wrap ((j : Int) + s.size) = j + s.size := IntWalk.i64_in _ (by omega)
  have q2 : IntKind.i64.wrap ((j : Int) + s.size - f.now.size) = j + s.size - f.now.size := IntWalk.i64_in _ (by omega)
  have Hroom := box (fun W (hc : Calm (w.alloc (.cells #[.string n] 9)) W) => Room_any (F := foot p mb wv D) W ⟨mb, wv, H1.out.calm hc, rfl⟩ (by have := Hsz.out; omega) Hcap.out)
  have Hf2 := box (show D.burn.find n = some f by rw [burn_find]; exact hf)
  have Hl := box (fun W => laid_any f.now s j W hnow hs (by omega))
  clear h1 hf hh hd hp hsz hs hnow hwl hcalm h hcap
  go_enter Tryz.func113, Tryz.ntmps113
  go_wp2_with fail
  refine Hb.out.mono ?_
  rw [hb2.out]
  rintro e w' ⟨rfl, rfl⟩
  go_wp2_with fail
  refine wp_region_held_drew (S := fun w' => w'.cell? ⟨f.blk, 1, none⟩ = some (.string f.now)) (by kernel_rfl) (by go_keep) (fun hHeld => ?_)
  ((refine' wpAnyH_take (i := 0) (v := _) rfl (by kernel_rfl) (by kernel_rfl) (by kernel_rfl) (fun _ _ _ h => h) (Or.inl ⟨by rfl, ?hy151⟩) (by assumption) ?rest151; (case hy151 => (intro w hSw; (try dsimp only at hSw); go_simp <;> with_reducible rfl)); simp only [List.getElem_toArray, List.getElem_cons_succ, List.getElem_cons_zero, Act.put, List.setIfInBounds_toArray, List.set_cons_zero, List.set_cons_succ]); (refine' wpAnyH_take (i := 1) (v := _) rfl (by kernel_rfl) (by kernel_rfl) (by kernel_rfl) (fun _ _ _ h => h) (Or.inl ⟨by rfl, ?hy152⟩) (by assumption) ?rest152; (case hy152 => (intro w hSw; (try dsimp only at hSw); go_simp <;> with_reducible rfl)); simp only [List.getElem_toArray, List.getElem_cons_succ, List.getElem_cons_zero, Act.put, List.setIfInBounds_toArray, List.set_cons_zero, List.set_cons_succ]); (refine' wpAnyH_take (i := 2) (v := _) rfl (by kernel_rfl) (by kernel_rfl) (by kernel_rfl) (fun _ _ _ h => h) (Or.inl ⟨by rfl, ?hy153⟩) (by assumption) ?rest153; (case hy153 => (intro w hSw; (try dsimp only at hSw); go_simp <;> with_reducible rfl)); simp only [List.getElem_toArray, List.getElem_cons_succ, List.getElem_cons_zero, Act.put, List.setIfInBounds_toArray, List.set_cons_zero, List.set_cons_succ]); (refine' wpAnyH_take (i := 3) (v := _) rfl (by kernel_rfl) (by kernel_rfl) (by kernel_rfl) (fun _ _ _ h => h) (Or.inl ⟨by rfl, ?hy154⟩) (by assumption) ?rest154; (case hy154 => (intro w hSw; (try dsimp only at hSw); go_simp <;> with_reducible rfl)); simp only [List.getElem_toArray, List.getElem_cons_succ, List.getElem_cons_zero, Act.put, List.setIfInBounds_toArray, List.set_cons_zero, List.set_cons_succ]); (refine' wpAnyH_take (i := 4) (v := _) rfl (by kernel_rfl) (by kernel_rfl) (by kernel_rfl) (fun _ _ _ h => h) (Or.inl ⟨by rfl, ?hy155⟩) (by assumption) ?rest155; (case hy155 => (intro w hSw; (try dsimp only at hSw); go_simp <;> with_reducible rfl)); simp only [List.getElem_toArray, List.getElem_cons_succ, List.getElem_cons_zero, Act.put, List.setIfInBounds_toArray, List.set_cons_zero, List.set_cons_succ]); (refine' wpAnyH_take (i := 5) (v := _) rfl (by kernel_rfl) (by kernel_rfl) (by kernel_rfl) (fun _ _ _ h => h) (Or.inl ⟨by rfl, ?hy156⟩) (by assumption) ?rest156; (case hy156 => (intro w hSw; (try dsimp only at hSw); go_simp <;> with_reducible rfl)); simp only [List.getElem_toArray, List.getElem_cons_succ, List.getElem_cons_zero, Act.put, List.setIfInBounds_toArray, List.set_cons_zero, List.set_cons_succ]); (refine' wpAnyH_take (i := 6) (v := _) rfl (by kernel_rfl) (by kernel_rfl) (by kernel_rfl) (fun _ _ _ h => h) (Or.inl ⟨by rfl, ?hy157⟩) (by assumption) ?rest157; (case hy157 => (intro w hSw; (try dsimp only at hSw); go_simp <;> with_reducible rfl)); simp only [List.getElem_toArray, List.getElem_cons_succ, List.getElem_cons_zero, Act.put, List.setIfInBounds_toArray, List.set_cons_zero, List.set_cons_succ]); (refine' wpAnyH_take (i := 7) (v := _) rfl (by kernel_rfl) (by kernel_rfl) (by kernel_rfl) (fun _ _ _ h => h) (Or.inl ⟨by rfl, ?hy158⟩) (by assumption) ?rest158; (case hy158 => (intro w hSw; (try dsimp only at hSw); go_simp <;> with_reducible rfl)); simp only [List.getElem_toArray, List.getElem_cons_succ, List.getElem_cons_zero, Act.put, List.setIfInBounds_toArray, List.set_cons_zero, List.set_cons_succ]); (refine' wpAnyH_take (i := 8) (v := _) rfl (by kernel_rfl) (by kernel_rfl) (by kernel_rfl) (fun _ _ _ h => h) (Or.inl ⟨by rfl, ?hy159⟩) (by assumption) ?rest159; (case hy159 => (intro w hSw; (try dsimp only at hSw); go_simp <;> with_reducible rfl)); simp only [List.getElem_toArray, List.getElem_cons_succ, List.getElem_cons_zero, Act.put, List.setIfInBounds_toArray, List.set_cons_zero, List.set_cons_succ]); (refine' wpAnyH_take (i := 9) (v := _) rfl (by kernel_rfl) (by kernel_rfl) (by kernel_rfl) (fun _ _ _ h => h) (Or.inl ⟨by rfl, ?hy160⟩) (by assumption) ?rest160; (case hy160 => (intro w hSw; (try dsimp only at hSw); go_simp <;> with_reducible rfl)); simp only [List.getElem_toArray, List.getElem_cons_succ, List.getElem_cons_zero, Act.put, List.setIfInBounds_toArray, List.set_cons_zero, List.set_cons_succ]); (refine' wpAnyH_take (i := 10) (v := _) rfl (by kernel_rfl) (by kernel_rfl) (by kernel_rfl) (fun _ _ _ h => h) (Or.inl ⟨by rfl, ?hy161⟩) (by assumption) ?rest161; (case hy161 => (intro w hSw; (try dsimp only at hSw); go_simp <;> with_reducible rfl)); simp only [List.getElem_toArray, List.getElem_cons_succ, List.getElem_cons_zero, Act.put, List.setIfInBounds_toArray, List.set_cons_zero, List.set_cons_succ]))
  refine wpAnyH_ready (rs := [11]) (by kernel_rfl) (by simp) ?_
  refine AllReadyH.cons rfl (fun K hK => ?_) AllReadyH.nil
  rw [if_pos (by rfl)]
  go_simp
  refine (Hroom.out _ (by (repeat' (first | (with_reducible exact Calm.refl _) | (with_reducible assumption) | (with_reducible refine Calm.drew ?_) | (with_reducible refine Calm.alloc ?_ _) | (with_reducible refine Calm.trans ?_ (by assumption)))))).mono ?_
  rintro e w' ⟨rfl, hb⟩
  go_wp2_with fail
  refine hK.out _ _ ?_ (fun hHeld2 => ?_)
  · show w'.cell? ⟨f.blk, 1, none⟩ = some (.string f.now)
    rw [hb.cell (p := ⟨f.blk, 1, none⟩) hfl]; assumption
  clear hK K
  try simp only [List.getElem_toArray, List.getElem_cons_succ, List.getElem_cons_zero, Act.put, List.setIfInBounds_toArray, List.set_cons_zero, List.set_cons_succ]
  ((refine' wpAnyH_take (i := 12) (v := _) rfl (by kernel_rfl) (by kernel_rfl) (by kernel_rfl) (fun _ _ _ h => h) (Or.inl ⟨by rfl, ?hy162⟩) (by assumption) ?rest162; (case hy162 => (intro w hSw; (try dsimp only at hSw); go_simp <;> with_reducible rfl)); simp only [List.getElem_toArray, List.getElem_cons_succ, List.getElem_cons_zero, Act.put, List.setIfInBounds_toArray, List.set_cons_zero, List.set_cons_succ]); (refine' wpAnyH_take (i := 13) (v := _) rfl (by kernel_rfl) (by kernel_rfl) (by kernel_rfl) (fun _ _ _ h => h) (Or.inl ⟨by rfl, ?hy163⟩) (by assumption) ?rest163; (case hy163 => (intro w hSw; (try dsimp only at hSw); go_simp <;> with_reducible rfl)); simp only [List.getElem_toArray, List.getElem_cons_succ, List.getElem_cons_zero, Act.put, List.setIfInBounds_toArray, List.set_cons_zero, List.set_cons_succ]); (refine' wpAnyH_take (i := 14) (v := _) rfl (by kernel_rfl) (by kernel_rfl) (by kernel_rfl) (fun _ _ _ h => h) (Or.inl ⟨by rfl, ?hy164⟩) (by assumption) ?rest164; (case hy164 => (intro w hSw; (try dsimp only at hSw); go_simp <;> with_reducible rfl)); simp only [List.getElem_toArray, List.getElem_cons_succ, List.getElem_cons_zero, Act.put, List.setIfInBounds_toArray, List.set_cons_zero, List.set_cons_succ]); (refine' wpAnyH_take (i := 15) (v := _) rfl (by kernel_rfl) (by kernel_rfl) (by kernel_rfl) (fun _ _ _ h => h) (Or.inl ⟨by rfl, ?hy165⟩) (by assumption) ?rest165; (case hy165 => (intro w hSw; (try dsimp only at hSw); go_simp <;> with_reducible rfl)); simp only [List.getElem_toArray, List.getElem_cons_succ, List.getElem_cons_zero, Act.put, List.setIfInBounds_toArray, List.set_cons_zero, List.set_cons_succ]); (refine' wpAnyH_take (i := 16) (v := _) rfl (by kernel_rfl) (by kernel_rfl) (by kernel_rfl) (fun _ _ _ h => h) (Or.inl ⟨by rfl, ?hy166⟩) (by assumption) ?rest166; (case hy166 => (intro w hSw; (try dsimp only at hSw); go_simp <;> with_reducible rfl)); simp only [List.getElem_toArray, List.getElem_cons_succ, List.getElem_cons_zero, Act.put, List.setIfInBounds_toArray, List.set_cons_zero, List.set_cons_succ]); (refine' wpAnyH_take (i := 17) (v := _) rfl (by kernel_rfl) (by kernel_rfl) (by kernel_rfl) (fun _ _ _ h => h) (Or.inl ⟨by rfl, ?hy167⟩) (by assumption) ?rest167; (case hy167 => (intro w hSw; (try dsimp only at hSw); go_simp <;> with_reducible rfl)); simp only [List.getElem_toArray, List.getElem_cons_succ, List.getElem_cons_zero, Act.put, List.setIfInBounds_toArray, List.set_cons_zero, List.set_cons_succ]); (refine' wpAnyH_take (i := 18) (v := _) rfl (by kernel_rfl) (by kernel_rfl) (by kernel_rfl) (fun _ _ _ h => h) (Or.inl ⟨by rfl, ?hy168⟩) (by assumption) ?rest168; (case hy168 => (intro w hSw; (try dsimp only at hSw); go_simp <;> with_reducible rfl)); simp only [List.getElem_toArray, List.getElem_cons_succ, List.getElem_cons_zero, Act.put, List.setIfInBounds_toArray, List.set_cons_zero, List.set_cons_succ]); (refine' wpAnyH_take (i := 19) (v := _) rfl (by kernel_rfl) (by kernel_rfl) (by kernel_rfl) (fun _ _ _ h => h) (Or.inl ⟨by rfl, ?hy169⟩) (by assumption) ?rest169; (case hy169 => (intro w hSw; (try dsimp only at hSw); go_simp <;> with_reducible rfl)); simp only [List.getElem_toArray, List.getElem_cons_succ, List.getElem_cons_zero, Act.put, List.setIfInBounds_toArray, List.set_cons_zero, List.set_cons_succ]); (refine' wpAnyH_take (i := 20) (v := _) rfl (by kernel_rfl) (by kernel_rfl) (by kernel_rfl) (fun _ _ _ h => h) (Or.inl ⟨by rfl, ?hy170⟩) (by assumption) ?rest170; (case hy170 => (intro w hSw; (try dsimp only at hSw); go_simp <;> with_reducible rfl)); simp only [List.getElem_toArray, List.getElem_cons_succ, List.getElem_cons_zero, Act.put, List.setIfInBounds_toArray, List.set_cons_zero, List.set_cons_succ]); (refine' wpAnyH_take (i := 21) (v := _) rfl (by kernel_rfl) (by kernel_rfl) (by kernel_rfl) (fun _ _ _ h => h) (Or.inl ⟨by rfl, ?hy171⟩) (by assumption) ?rest171; (case hy171 => (intro w hSw; (try dsimp only at hSw); go_simp <;> with_reducible rfl)); simp only [List.getElem_toArray, List.getElem_cons_succ, List.getElem_cons_zero, Act.put, List.setIfInBounds_toArray, List.set_cons_zero, List.set_cons_succ]); (refine' wpAnyH_take (i := 22) (v := _) rfl (by kernel_rfl) (by kernel_rfl) (by kernel_rfl) (fun _ _ _ h => h) (Or.inl ⟨by rfl, ?hy172⟩) (by assumption) ?rest172; (case hy172 => (intro w hSw; (try dsimp only at hSw); go_simp <;> with_reducible rfl)); simp only [List.getElem_toArray, List.getElem_cons_succ, List.getElem_cons_zero, Act.put, List.setIfInBounds_toArray, List.set_cons_zero, List.set_cons_succ]); (refine' wpAnyH_take (i := 23) (v := _) rfl (by kernel_rfl) (by kernel_rfl) (by kernel_rfl) (fun _ _ _ h => h) (Or.inl ⟨by rfl, ?hy173⟩) (by assumption) ?rest173; (case hy173 => (intro w hSw; (try dsimp only at hSw); go_simp <;> with_reducible rfl)); simp only [List.getElem_toArray, List.getElem_cons_succ, List.getElem_cons_zero, Act.put, List.setIfInBounds_toArray, List.set_cons_zero, List.set_cons_succ]); (refine' wpAnyH_take (i := 24) (v := _) rfl (by kernel_rfl) (by kernel_rfl) (by kernel_rfl) (fun _ _ _ h => h) (Or.inl ⟨by rfl, ?hy174⟩) (by assumption) ?rest174; (case hy174 => (intro w hSw; (try dsimp only at hSw); go_simp <;> with_reducible rfl)); simp only [List.getElem_toArray, List.getElem_cons_succ, List.getElem_cons_zero, Act.put, List.setIfInBounds_toArray, List.set_cons_zero, List.set_cons_succ]); (refine' wpAnyH_take (i := 25) (v := _) rfl (by kernel_rfl) (by kernel_rfl) (by kernel_rfl) (fun _ _ _ h => h) (Or.inl ⟨by rfl, ?hy175⟩) (by assumption) ?rest175; (case hy175 => (intro w hSw; (try dsimp only at hSw); go_simp <;> with_reducible rfl)); simp only [List.getElem_toArray, List.getElem_cons_succ, List.getElem_cons_zero, Act.put, List.setIfInBounds_toArray, List.set_cons_zero, List.set_cons_succ]))
  refine wpAnyH_done (by kernel_rfl) ?_ _
  have hcW : Calm (w.alloc (.cells #[.string n] 9)) w' := by (repeat' (first | (with_reducible exact Calm.refl _) | (with_reducible assumption) | (with_reducible refine Calm.drew ?_) | (with_reducible refine Calm.alloc ?_ _) | (with_reducible refine Calm.trans ?_ (by assumption))))
  have HcW := box hcW
  clear hcW
  go_wp2_with fail
  refine (done_any _ (H1.out.calm HcW.out) hleft).mono ?_
  rw [Hbn.out]
  rintro e w2 ⟨rfl, hN⟩
  have HS := box (show Step (foot p mb wv D) w (foot p mb wv D.burn) w2 by rw [foot_burn]; exact (Step.of_calm (Hcalm.out.trans HcW.out)).trans (hN.step (.inl rfl)))
  obtain ⟨g0, g1, g2, g3⟩ := hN.disk.file Hf2.out
  have hfl2 : f.blk < w2.heap.size := heap_lt (hN.disk.files f (find_some Hf2.out).1)
  have HN := box hN
  clear hN
  go_wp2_with fail
  refine (Hl.out _).mono ?_
  rintro e w3 ⟨rfl, hc3⟩
  have hD3 := HN.out.disk.calm hc3
  have hS3 := HS.out.calm hc3
  obtain ⟨g0', g1', g2', g3'⟩ := hD3.file Hf2.out
  have hfl3 : f.blk < w3.heap.size := heap_lt (hD3.files f (find_some Hf2.out).1)
  have hD4 := hD3.written (s := s) Hf2.out j
  have hm4 : f ∈ D.burn.files := (find_some Hf2.out).1
  have hS4 := hS3.trans (show Step (foot p mb wv D.burn) w3 (foot p mb wv D.burn) (w3.setCell ⟨f.blk, 1, none⟩ (.string (laid f.now j s))) from ⟨(Keeps.refl _ w3).setCell (p := ⟨f.blk, 1, none⟩) (.inl (.inr (.inr (.inr (List.mem_map.2 ⟨f, hm4, rfl⟩))))) _, fun _ h => .inl h⟩)
  have hs4 : (w3.setCell ⟨f.blk, 1, none⟩ (.string (laid f.now j s))).heap.size = w3.heap.size := by simp [World.setCell]
  have hD5 := hD4.calm ((Calm.refl _).alloc (.cells #[ptrTo f.blk, .int .i64 j, .string s] 165))
  have hb5 := heap_new (w3.setCell ⟨f.blk, 1, none⟩ (.string (laid f.now j s))) (.cells #[ptrTo f.blk, .int .i64 j, .string s] 165)
  rw [hs4] at hb5
  have hwl5 : (D.burn.turn n (putF j s)).waits.length ≤ 1000000 := by rw [show (D.burn.turn n (putF j s)).waits = D.waits from burn_files.2.1]; exact Hwl.out
  obtain ⟨v', W6, Happ, hrow, hk6, hob⟩ := append_wait _ (D.burn.turn n (putF j s)).waits ⟨f.blk, j, s⟩ w3.heap.size hD5.waits hb5 hwl5 112
  obtain ⟨a', n', cap', rfl⟩ := row_slice hrow
  have hp6 : W6.heap[p]? = some (.cells (diskCells (D.burn.turn n (putF j s)) mb wv) 114 (0, 0)) := (hk6.block p (heap_lt hD5.obj) hD5.p_ne_row).trans hD5.obj
  have k3 : W6.cell? ⟨p, 3, none⟩ = some wv := cell_of hp6 3
  have k4 := free_of hp6 3
  have hpl6 := heap_lt hp6
  have hnew : ∀ g, (Value.slice a' n' cap').ownBlock = some g → wv.ownBlock = some g ∨ ((w3.setCell ⟨f.blk, 1, none⟩ (.string (laid f.now j s))).alloc (.cells #[ptrTo f.blk, .int .i64 j, .string s] 165)).heap.size ≤ g := fun g hg => by
    rcases hob with h | h
    · exact .inl (by rw [← h]; exact hg)
    · rw [h] at hg; cases hg; exact .inr (Nat.le_refl _)
  have hfin := box (hD5.rowTo hk6 hrow hnew (fun x hx => by
    rcases List.mem_append.1 hx with hx | hx
    · exact hD5.live x hx
    · rw [List.mem_singleton] at hx
      subst hx
      refine ⟨putF j s f, ?_, rfl⟩
      unfold DiskS.turn
      exact List.mem_map.2 ⟨f, hm4, if_pos (find_some Hf2.out).2⟩))
  have hS7 := box ((hS4.calm ((Calm.refl _).alloc (.cells #[ptrTo f.blk, .int .i64 j, .string s] 165))).trans (show Step (foot p mb wv D.burn) _ (foot p mb (.slice a' n' cap') (D.burn.put n f j s)) (W6.setCell ⟨p, 3, none⟩ (.slice a' n' cap')) from ⟨(hk6.mono (fun b _ hb => .inr (.inr (.inl hb)))).setCell (p := ⟨p, 3, none⟩) (.inl (.inl rfl)) _, by
    rintro b (hb | hb | hb | hb)
    · exact .inl (.inl hb)
    · exact .inl (.inr (.inl hb))
    · rcases hnew b hb with h | h
      · exact .inl (.inr (.inr (.inl h)))
      · exact .inr h
    · refine .inl (.inr (.inr (.inr ?_)))
      rw [← (turn_same (n := n) (g := putF j s) (fun _ => ⟨rfl, rfl⟩)).2]
      exact hb⟩))
  have Happ := box Happ
  have d3c : w3.cell? ⟨p, 3, none⟩ = some wv := hD3.cells.2.2.2.1
  have hpl3 := heap_lt hD3.obj
  have hpf := hD3.p_ne_file hm4
  clear hD3 hS3 hD4 hS4 hD5 hb5 hrow hk6 hob hnew hp6 hc3 hs4 hwl5
  go_wp2_with (first | (at_builtin; refine Lib.wpList_append_run _ rfl _ _ _ _ rfl _ _ rfl rfl _ _ Happ.out ?_) | fail)
  go_ret
  exact OpDone.of rfl ⟨mb, _, hfin.out, rfl⟩ hS7.out


end
end Go.Proofs.YtdepejneliacpaaGreatDoor.dk

/- Layer 4: Write, whole. -/
namespace Go.Proofs.YtdepejneliacpaaGreatDoor.dk
open Go.ChangeShapes Go.WideShapes Go.ChangeAt Go.RowKit

section
variable {w w' w1 : World} {p mb : Nat} {wv wv' : Value} {D : DiskS} {F : Nat → Prop}

set_option maxRecDepth 100000 in
set_option maxHeartbeats 8000000 in
theorem Write_any (n s : ByteArray) (k : Int) (w : World) (h : DiskAt w p D F) (hleft : D.left ≤ 9223372036854775807) (hwl : D.waits.length ≤ 1000000) (hsz : D.size ≤ 1000000000) (hs : s.size ≤ 1000000000) (hcap : 0 ≤ D.cap ∧ D.cap ≤ 16777216) (hfs : ∀ f ∈ D.files, f.now.size ≤ 1000000000) :
    Calls Tryz.prog 113 #[ptrTo p, .string n, .int .i64 k, .string s] w (OpDone (D.write n k s) p F w) := by
  have h0 := h
  obtain ⟨mb, wv, h, rfl⟩ := h
  have hcalm : Calm w (w.alloc (.cells #[.string n] 9)) := (Calm.refl w).alloc _
  have h1 := h.calm hcalm
  obtain ⟨c0, c1, c2, c3, c4⟩ := h1.cells
  have hlook := h1.look n
  have Hb := box (bars_any (p := p) (mb := mb) (wv := wv) (D := D) (.slice (some ⟨w.heap.size, 0, none⟩) 1 1) [n] (w.alloc (.cells #[.string n] 9)) h1 (StrsAt.one (by go_cell)) (by simp))
  have hb1 := box (bars_one (D := D) n)
  have H1 := box h1
  have Hcalm := box hcalm
  cases hd : D.down
  · cases hf : D.find n with
    | none =>
      have hh : D.has n = false := by unfold DiskS.has; rw [hf]; rfl
      have hres := box (show D.write n k s = (9, D) by unfold DiskS.write; rw [hd, hf]; rfl)
      have hb2 := box (show D.bars [n] = 9 by rw [hb1.out, hd, hh]; rfl)
      clear hb1 h1 hf hh hd hsz hs hwl hcap hfs h h0 hcalm
      go_enter Tryz.func113, Tryz.ntmps113
      go_wp2_with fail
      refine Hb.out.mono ?_
      rw [hb2.out]
      rintro e w' ⟨rfl, rfl⟩
      go_wp2_with fail
      go_ret
      exact OpDone.of hres.out ⟨mb, wv, H1.out, rfl⟩ (Step.of_calm Hcalm.out)
    | some f =>
      by_cases hr : k < 0 ∨ (f.now.size : Int) < k
      · have hh : D.has n = true := by unfold DiskS.has; rw [hf]; rfl
        have hp := ptr_some hf
        obtain ⟨d0, d1, d2, d3⟩ := h1.file hf
        have hb2 := box (show D.bars [n] = 0 by rw [hb1.out, hd, hh]; rfl)
        rw [hp] at hlook
        have hres := box (show D.write n k s = (2, D) by unfold DiskS.write; rw [hd, hf]; simp only [if_pos hr]; rfl)
        clear hb1 h1 hf hh hd hp hsz hs hwl hcap hfs h h0 hcalm
        rcases hr with hr | hr
        · go_enter Tryz.func113, Tryz.ntmps113
          go_wp2_with fail
          refine Hb.out.mono ?_
          rw [hb2.out]
          rintro e w' ⟨rfl, rfl⟩
          go_wp2_with fail
          go_ret
          exact OpDone.of hres.out ⟨mb, wv, H1.out, rfl⟩ (Step.of_calm Hcalm.out)
        · have hr0 : ¬ k < 0 := by omega
          go_enter Tryz.func113, Tryz.ntmps113
          go_wp2_with fail
          refine Hb.out.mono ?_
          rw [hb2.out]
          rintro e w' ⟨rfl, rfl⟩
          go_wp2_with fail
          go_ret
          exact OpDone.of hres.out ⟨mb, wv, H1.out, rfl⟩ (Step.of_calm Hcalm.out)
      · obtain ⟨j, rfl⟩ : ∃ j : Nat, k = j := ⟨k.toNat, by omega⟩
        have hj : j ≤ f.now.size := by omega
        have hnow : f.now.size ≤ 1000000000 := hfs f (find_some hf).1
        by_cases t1 : D.cap - D.size < j + s.size - f.now.size
        · by_cases t2 : (f.now.size : Int) < j + s.size
          · rw [write_full hd hf hj t1 t2]
            exact Write_full n s j f w h0 hleft hwl hsz hs hcap hd hf hnow hj (decide_eq_true t1) (decide_eq_true t2)
          · rw [write_goes (s := s) hd hf hj (.inr t2)]
            cases hbn : D.burns
            · by_cases hs0 : s.size = 0
              · simp only [Bool.false_eq_true, if_false, hs0, if_true]
                exact Write_emptyTF n s j f w h0 hleft hwl hsz hs hcap hd hf hnow hj (decide_eq_true t1) (decide_eq_false t2) hbn hs0
              · simp only [Bool.false_eq_true, if_false, hs0]
                exact Write_putTF n s j f w h0 hleft hwl hsz hs hcap hd hf hnow hj (decide_eq_true t1) (decide_eq_false t2) hbn hs0
            · simp only [if_true]
              exact Write_burnTF n s j f w h0 hleft hwl hsz hs hcap hd hf hnow hj (decide_eq_true t1) (decide_eq_false t2) hbn
        · rw [write_goes (s := s) hd hf hj (.inl t1)]
          cases hbn : D.burns
          · by_cases hs0 : s.size = 0
            · simp only [Bool.false_eq_true, if_false, hs0, if_true]
              exact Write_emptyF n s j f w h0 hleft hwl hsz hs hcap hd hf hnow hj (decide_eq_false t1) hbn hs0
            · simp only [Bool.false_eq_true, if_false, hs0]
              exact Write_putF n s j f w h0 hleft hwl hsz hs hcap hd hf hnow hj (decide_eq_false t1) hbn hs0
          · simp only [if_true]
            exact Write_burnF n s j f w h0 hleft hwl hsz hs hcap hd hf hnow hj (decide_eq_false t1) hbn
  · have hres := box (show D.write n k s = (8, D) by unfold DiskS.write; rw [hd]; rfl)
    have hb2 := box (show D.bars [n] = 8 by rw [hb1.out, hd]; rfl)
    clear hb1 h1 hd hsz hs hwl hcap hfs h h0 hcalm
    go_enter Tryz.func113, Tryz.ntmps113
    go_wp2_with fail
    refine Hb.out.mono ?_
    rw [hb2.out]
    rintro e w' ⟨rfl, rfl⟩
    go_wp2_with fail
    go_ret
    exact OpDone.of hres.out ⟨mb, wv, H1.out, rfl⟩ (Step.of_calm Hcalm.out)

end
end Go.Proofs.YtdepejneliacpaaGreatDoor.dk

/- Layer 4: Contains over a crash's marks. -/
namespace Go.Proofs.YtdepejneliacpaaGreatDoor.dk
open Go.ChangeShapes Go.WideShapes Go.ChangeAt Go.RowKit

/-- Marks lie under a slice's address. -/
def BoolsAt (w : World) (a : Option Addr) (l : List Bool) : Prop :=
  ∀ k (hk : k < l.length), ∃ b off, a = some ⟨b, off, none⟩ ∧ w.cell? ⟨b, off + k, none⟩ = some (.bool l[k])
theorem BoolsAt.calm {w w' : World} {a : Option Addr} {l : List Bool} (h : BoolsAt w a l) (hc : Calm w w') : BoolsAt w' a l := fun k hk => by
  obtain ⟨b, off, rfl, hcell⟩ := h k hk
  exact ⟨b, off, rfl, by rw [hc.cell (p := ⟨b, off + k, none⟩) (World.block_lt_of_cell? w _ hcell)]; exact hcell⟩
theorem BoolsAt.take {w : World} {a : Option Addr} {l : List Bool} (h : BoolsAt w a l) (m : Nat) : BoolsAt w a (l.take m) := fun k hk => by
  obtain ⟨b, off, rfl, hcell⟩ := h k (by simp at hk; omega)
  exact ⟨b, off, rfl, by rw [hcell, List.getElem_take]⟩
theorem BoolsAt.drop {w : World} {b off : Nat} {l : List Bool} (h : BoolsAt w (some ⟨b, off, none⟩) l) (m : Nat) : BoolsAt w (some ⟨b, off + m, none⟩) (l.drop m) := fun k hk => by
  obtain ⟨b', off', e, hcell⟩ := h (m + k) (by simp at hk; omega)
  cases e
  exact ⟨b, off + m, rfl, by rw [Nat.add_assoc, hcell, List.getElem_drop]⟩

def idxB (l : List Bool) : Int := match l.findIdx? (fun x => x) with | some k => k | none => -1
theorem idxB_contains (l : List Bool) : decide (0 ≤ idxB l) = l.contains true := by
  unfold idxB
  cases h : l.findIdx? (fun x => x) with
  | none =>
    rw [List.findIdx?_eq_none_iff] at h
    have : l.contains true = false := by
      rw [← Bool.not_eq_true, List.contains_iff_mem]
      intro hm; have := h true hm; simp at this
    rw [this]; rfl
  | some k =>
    rw [List.findIdx?_eq_some_iff_getElem] at h
    obtain ⟨hk, h1, _⟩ := h
    have : l.contains true = true := by
      rw [List.contains_iff_mem, ← h1]; exact List.getElem_mem _
    rw [this]; exact decide_eq_true (Int.natCast_nonneg k)
theorem idxB_snoc (l : List Bool) (k : Nat) (hk : k < l.length) (h : (l.take k).findIdx? (fun x => x) = none) :
    (l[k] = true → idxB l = k) ∧ (l[k] = false → (l.take (k + 1)).findIdx? (fun x => x) = none) := by
  rw [List.findIdx?_eq_none_iff] at h
  constructor
  · intro he
    have : l.findIdx? (fun x => x) = some k := by
      rw [List.findIdx?_eq_some_iff_getElem]
      refine ⟨hk, he, fun j hj => ?_⟩
      have := h l[j] (by rw [List.mem_take_iff_getElem]; exact ⟨j, by omega, rfl⟩)
      simpa using this
    unfold idxB; rw [this]
  · intro he
    rw [List.findIdx?_eq_none_iff, List.take_succ_eq_append_getElem hk]
    intro x hx
    rcases List.mem_append.1 hx with hx | hx
    · exact h x hx
    · rw [List.mem_singleton] at hx; subst hx; exact he

set_option maxRecDepth 100000 in
set_option maxHeartbeats 2000000 in
theorem IndexB_any (a : Option Addr) (cap : Nat) (l : List Bool) (w : World) (h : BoolsAt w a l) (hl : l.length ≤ 4294967296) :
    Calls Tryz.prog 150 #[.slice a l.length cap, .bool true] w fun e w' => e = .returned (.int .i64 (idxB l)) ∧ w = w' := by
  have H := box h
  clear h
  go_enter Tryz.func150, Tryz.ntmps150
  go_wp2
  go_loop [8] (fun i => ∃ k : Nat, k ≤ l.length ∧ i = .int .i64 k ∧ (l.take k).findIdx? (fun x => x) = none) (fun i => l.length - (intOf i).toNat)
  case atStart => exact ⟨0, Nat.zero_le _, rfl, rfl⟩
  case round =>
    obtain ⟨k, hk, rfl, hno⟩ := hrel
    have Hno := box hno
    clear hno
    by_cases hlt : k < l.length
    · obtain ⟨b, off, rfl, hcell⟩ := H.out k hlt
      have hsn := box (idxB_snoc l k hlt)
      obtain ⟨x, hx⟩ : ∃ x, l[k] = x := ⟨_, rfl⟩
      rw [hx] at hcell hsn
      clear hx
      cases x
      · have hn := box ((hsn.out Hno.out).2 rfl)
        go_wp2
        go_round
        case rel => exact ⟨k + 1, by omega, by go_num, hn.out⟩
        case measure => simp [intOf]; omega
      · have hn := box ((hsn.out Hno.out).1 rfl)
        go_wp2
        go_ret
        exact ⟨ret_int (by rw [hn.out]), rfl⟩
    · obtain rfl : k = l.length := by omega
      have hn := box (show idxB l = -1 by have := Hno.out; rw [List.take_length] at this; unfold idxB; rw [this])
      go_wp2
      go_ret
      exact ⟨ret_int (by rw [hn.out]), rfl⟩

theorem ContainsB_any (a : Option Addr) (cap : Nat) (l : List Bool) (w : World) (h : BoolsAt w a l) (hl : l.length ≤ 4294967296) :
    Calls Tryz.prog 99 #[.slice a l.length cap, .bool true] w fun e w' => e = .returned (.bool (l.contains true)) ∧ w = w' := by
  have hi := box (IndexB_any a cap l w h hl)
  have hb := box (idxB_contains l)
  clear h
  go_enter Tryz.func99, Tryz.ntmps99
  go_wp2_with fail
  refine hi.out.mono ?_
  rintro e w' ⟨rfl, rfl⟩
  go_wp2_with fail
  go_ret
  exact ⟨ret_bool hb.out, rfl⟩

end Go.Proofs.YtdepejneliacpaaGreatDoor.dk

/- Layer 4: what a crash leaves, as plain functions; how a disk lies midway. -/
namespace Go.Proofs.YtdepejneliacpaaGreatDoor.dk
open Go.ChangeShapes Go.WideShapes Go.ChangeAt Go.RowKit

section
variable {w w' w1 : World} {p mb : Nat} {wv wv' : Value} {D : DiskS} {F : Nat → Prop}

/-- What a crash keeps of the i-th waiting write. -/
def keptAt (keep : List Bool) (lack : Nat) (L : List WaitS) (i : Nat) : Option WaitS :=
  match L[i]? with
  | none => none
  | some x => if keep.getD i false then some { x with s := if ((keep.take L.length).drop (i + 1)).contains true then x.s else x.s.extract 0 (x.s.size - lack) } else none
def keptTo (keep : List Bool) (lack : Nat) (L : List WaitS) (k : Nat) : List WaitS := (List.range k).filterMap (keptAt keep lack L)
/-- All images with writes laid over them. -/
def DiskS.imaged (D : DiskS) (K : List WaitS) : DiskS := { D with files := D.files.map fun f => { f with image := lays f.image f.blk K } }
/-- A crash. -/
def DiskS.crashed (D : DiskS) (keep : List Bool) (lack : Int) : DiskS :=
  ⟨-1, false, D.cap, (D.imaged (keptTo keep lack.toNat D.waits (min keep.length D.waits.length))).files.map fun f => { f with now := f.image }, []⟩

theorem imaged_nil : D.imaged [] = D := by
  unfold DiskS.imaged lays
  have : (D.files.map fun f => ({ f with image := f.image } : FileS)) = D.files := by rw [List.map_id'' (fun f => rfl)]
  simp only [List.foldl_nil]
  rw [this]
theorem imaged_foot (K : List WaitS) : (D.imaged K).files.map (·.blk) = D.files.map (·.blk) := by
  unfold DiskS.imaged; simp [List.map_map, Function.comp_def]
theorem foot_imaged (K : List WaitS) : foot p mb wv (D.imaged K) = foot p mb wv D := by unfold foot; rw [imaged_foot]
theorem keptTo_succ (keep : List Bool) (lack : Nat) (L : List WaitS) (k : Nat) : keptTo keep lack L (k + 1) = keptTo keep lack L k ++ (keptAt keep lack L k).toList := by
  unfold keptTo
  rw [List.range_succ, List.filterMap_append]
  congr 1
theorem DiskIn.find_mem (h : DiskIn w p mb wv D) {f : FileS} (hf : f ∈ D.files) : D.find f.name = some f := by
  cases hx : D.find f.name with
  | none => exact absurd rfl (find_none hx f hf)
  | some g =>
    obtain ⟨h1, h2⟩ := find_some hx
    rw [nodup_inj h.names h1 hf h2]

def imgF (j : Nat) (s : ByteArray) (f : FileS) : FileS := { f with image := laid f.image j s }
theorem DiskIn.imaged_snoc (h : DiskIn w p mb wv D) {f : FileS} (hf : f ∈ D.files) (K : List WaitS) (x : WaitS) (hx : x.blk = f.blk) :
    D.imaged (K ++ [x]) = (D.imaged K).turn f.name (imgF x.off x.s) := by
  unfold DiskS.imaged DiskS.turn
  simp only [List.map_map]
  congr 1
  apply List.map_congr_left
  intro y hy
  simp only [Function.comp, lays, List.foldl_append, List.foldl_cons, List.foldl_nil]
  by_cases hn : y.name = f.name
  · have : y = f := nodup_inj h.names hy hf hn
    subst this
    rw [if_pos hx, if_pos rfl]
    rfl
  · have hb : ¬ x.blk = y.blk := fun e => hn (by rw [nodup_inj h.blks hy hf (by rw [← e, hx])])
    rw [if_neg hb, if_neg hn]

theorem imaged_mem {K : List WaitS} (h : DiskIn w p mb wv (D.imaged K)) {f : FileS} (hf : f ∈ D.files) : (D.imaged K).find f.name = some { f with image := lays f.image f.blk K } :=
  h.find_mem (f := { f with image := lays f.image f.blk K }) (List.mem_map.2 ⟨f, hf, rfl⟩)

theorem laid_size (s : ByteArray) (k : Nat) (o : ByteArray) : (laid s k o).size ≤ max s.size (k + o.size) := by
  unfold laid laidL pad
  split
  · show s.data.toList.toArray.size ≤ _
    simp; omega
  · show (_ : List UInt8).toArray.size ≤ _
    simp; omega
theorem lays_size (B : Nat) (b : Nat) : ∀ (K : List WaitS) (image : ByteArray), image.size ≤ B → (∀ y ∈ K, y.off + y.s.size ≤ B) → (lays image b K).size ≤ B
  | [], image, h, _ => h
  | y :: K, image, h, hy => by
    unfold lays
    rw [List.foldl_cons]
    refine lays_size B b K _ ?_ (fun z hz => hy z (List.mem_cons_of_mem _ hz))
    split
    · have := laid_size image y.off y.s
      have := hy y (List.mem_cons_self ..)
      omega
    · exact h
theorem keptAt_mem {keep : List Bool} {lack i : Nat} {L : List WaitS} {y : WaitS} (h : keptAt keep lack L i = some y) : ∃ x ∈ L, y.blk = x.blk ∧ y.off = x.off ∧ y.s.size ≤ x.s.size := by
  unfold keptAt at h
  cases hx : L[i]? with
  | none => rw [hx] at h; cases h
  | some x =>
    rw [hx] at h
    simp only at h
    split at h
    · cases h
      refine ⟨x, List.mem_of_getElem? hx, rfl, rfl, ?_⟩
      simp only
      split
      · exact Nat.le_refl _
      · simp [ByteArray.size_extract]
    · cases h
theorem keptTo_mem {keep : List Bool} {lack k : Nat} {L : List WaitS} {y : WaitS} (h : y ∈ keptTo keep lack L k) : ∃ x ∈ L, y.blk = x.blk ∧ y.off = x.off ∧ y.s.size ≤ x.s.size := by
  unfold keptTo at h
  obtain ⟨i, _, hi⟩ := List.mem_filterMap.1 h
  exact keptAt_mem hi

/-- The row's cells under the disk. -/
theorem DiskIn.row (h : DiskIn w p mb wv D) {k : Nat} (hk : k < D.waits.length) : ∃ g cap, wv = .slice (some ⟨g, 0, none⟩) D.waits.length cap ∧ D.waits.length ≤ cap ∧ g < w.heap.size ∧
    w.cell? ⟨g, k * 3, none⟩ = some (ptrTo D.waits[k].blk) ∧ w.cell? ⟨g, k * 3 + 1, none⟩ = some (.int .i64 D.waits[k].off) ∧ w.cell? ⟨g, k * 3 + 2, none⟩ = some (.string D.waits[k].s) := by
  rcases h.waits.2 with ⟨_, h0⟩ | ⟨g, cap, cur, rfl, _, h1, h2, h3, h4, h5⟩
  · omega
  · exact ⟨g, cap, rfl, h2, heap_lt h1, RowIs.cells ⟨cur, h1, h2, h3, h4, h5⟩ k hk⟩

end
end Go.Proofs.YtdepejneliacpaaGreatDoor.dk

/- Layer 4: Crash: files settle; the waiting writes are cleared. -/
namespace Go.Proofs.YtdepejneliacpaaGreatDoor.dk
open Go.ChangeShapes Go.WideShapes Go.ChangeAt Go.RowKit

section
variable {w w' w1 : World} {p mb : Nat} {wv wv' : Value} {D E : DiskS} {F : Nat → Prop} {left : List Nat}

theorem own_any (a : Option Addr) (n c m d : Nat) : (Value.slice a n c).ownBlock = (Value.slice a m d).ownBlock := by cases a <;> rfl
def settleF (left : List Nat) (f : FileS) : FileS := if f.blk ∈ left then f else { f with now := f.image }
/-- All files but some have what lasts. -/
def DiskS.settled (E : DiskS) (left : List Nat) : DiskS := { E with files := E.files.map (settleF left) }
theorem settleF_same (left : List Nat) (f : FileS) : (settleF left f).name = f.name ∧ (settleF left f).blk = f.blk ∧ (settleF left f).image = f.image := by
  unfold settleF; split <;> exact ⟨rfl, rfl, rfl⟩
theorem settled_all : E.settled (E.files.map (·.blk)) = E := by
  unfold DiskS.settled
  have : E.files.map (settleF (E.files.map (·.blk))) = E.files := by
    conv => rhs; rw [← List.map_id E.files]
    apply List.map_congr_left
    intro f hf
    unfold settleF; rw [if_pos (List.mem_map.2 ⟨f, hf, rfl⟩)]; rfl
  rw [this]
theorem settled_enc (left : List Nat) : (E.settled left).files.map encF = E.files.map encF := by
  unfold DiskS.settled; rw [List.map_map]; apply List.map_congr_left; intro f hf
  obtain ⟨h1, h2, _⟩ := settleF_same left f
  simp only [Function.comp, encF, h1, h2]
theorem settled_blk (left : List Nat) : (E.settled left).files.map (·.blk) = E.files.map (·.blk) := by
  unfold DiskS.settled; rw [List.map_map]; apply List.map_congr_left; intro f hf
  exact (settleF_same left f).2.1
theorem foot_settled (left : List Nat) : foot p mb wv (E.settled left) = foot p mb wv E := by unfold foot; rw [settled_blk]
def lastF (f : FileS) : FileS := { f with now := f.image }
/-- One more settles. -/
theorem DiskIn.settle (h : DiskIn w p mb wv (E.settled left)) (hb : (E.files.map (·.blk)).Nodup) (hn : (E.files.map (·.name)).Nodup) {f : FileS} (hf : f ∈ E.files) (left' : List Nat)
    (hl : ∀ b, b ∈ left' ↔ b ∈ left ∧ b ≠ f.blk) (hin : f.blk ∈ left) :
    (E.settled left).find f.name = some f ∧ DiskIn (w.setCell ⟨f.blk, 1, none⟩ (.string f.image)) p mb wv (E.settled left') := by
  have hm : f ∈ (E.settled left).files := by
    refine List.mem_map.2 ⟨f, hf, ?_⟩
    unfold settleF; rw [if_pos hin]
  have hfind := h.find_mem hm
  have he : E.settled left' = (E.settled left).turn f.name lastF := by
    unfold DiskS.settled DiskS.turn
    simp only [List.map_map]
    congr 1
    apply List.map_congr_left
    intro y hy
    simp only [Function.comp]
    obtain ⟨h1, h2, h3⟩ := settleF_same left y
    by_cases hyf : y.name = f.name
    · have : y = f := nodup_inj hn hy hf hyf
      subst this
      rw [if_pos h1]
      unfold settleF lastF
      rw [if_pos hin, if_neg (fun h => ((hl _).1 h).2 rfl)]
    · have hyb : y.blk ≠ f.blk := fun e => hyf (by rw [nodup_inj hb hy hf e])
      rw [if_neg (by rw [h1]; exact hyf)]
      unfold settleF
      by_cases hyl : y.blk ∈ left
      · rw [if_pos hyl, if_pos ((hl _).2 ⟨hyl, hyb⟩)]
      · rw [if_neg hyl, if_neg (fun h => hyl ((hl _).1 h).1)]
  refine ⟨hfind, ?_⟩
  rw [he]
  exact h.fileTo hfind ((Keeps.refl (· = f.blk) w).setCell (p := ⟨f.blk, 1, none⟩) (.inl rfl) _) (fun _ => ⟨rfl, rfl⟩) (heap_set (h.files f hm) 1 _)

theorem clear_waits {a : Option Addr} {n cap : Nat} (h : DiskIn w p mb (.slice a n cap) D) :
    ∃ w', (∀ ty, (Builtin.clear_ #[112] ty #[.slice a n cap]).run Tryz.prog w = .ok (.tuple #[]) w') ∧ w'.ownsRow 0 165 3 (.slice a 0 cap) 0 [] ∧
      Keeps (fun g => (Value.slice a n cap).ownBlock = some g) w w' := by
  rcases h.waits.2 with ⟨e, h0⟩ | ⟨g, c, cur, e, r1, r2, r3, r4, r5, r6⟩
  · cases e
    exact ⟨w, fun ty => by simp [Builtin.clear_, run_underlying Tryz.underlying112, zeroWrite], ⟨rfl, .inl ⟨rfl, rfl⟩⟩, .refl _ _⟩
  · cases e
    by_cases h0 : D.waits.length = 0
    · refine ⟨w, fun ty => ?_, ⟨rfl, .inr ⟨g, cap, cur, rfl, r1, r2, Nat.zero_le _, r4, r5, by simp⟩⟩, .refl _ _⟩
      rw [h0]
      simp [Builtin.clear_, run_underlying Tryz.underlying112, zeroWrite]
    · have hzw := zeroWrites D.waits.length
      have hcl : ∀ ty, (Builtin.clear_ #[112] ty #[.slice (some ⟨g, 0, none⟩) D.waits.length cap]).run Tryz.prog w = .ok (.tuple #[]) (w.setCells g 0 (Builtin.zeroCells (Value.agg #[.pointer none, .int .i64 0, .string ⟨#[]⟩]).cells D.waits.length).toList) := fun ty =>
        run_clear_cells w _ 165 ty _ Tryz.underlying112 zeroWrite g 0 D.waits.length cap (D.waits.length * 3) (by omega) hzw.1 hzw.2
          (fun k hk => by rw [cell_of r2, Array.getElem?_eq_getElem (by omega)]; rfl) (fun k hk => free_of r2 _)
      obtain ⟨c', q1, q2, _⟩ := heap_setCells g _ (Builtin.zeroCells (Value.agg #[.pointer none, .int .i64 0, .string ⟨#[]⟩]).cells D.waits.length).toList 0 w cur r2
      exact ⟨_, hcl, ⟨rfl, .inr ⟨g, cap, c', rfl, r1, q1, Nat.zero_le _, r4, by rw [q2]; exact r5, by simp⟩⟩, keeps_setCells _ g _ _ _ _ (.inl rfl) (.refl _ _)⟩

end
end Go.Proofs.YtdepejneliacpaaGreatDoor.dk

/- Layer 4, plain laws: calls as data; what stays good of a disk. -/
namespace Go.Proofs.YtdepejneliacpaaGreatDoor.dk
open Go.ChangeShapes Go.WideShapes Go.ChangeAt Go.RowKit

/-- A call as data. -/
structure OpS where
  k : Int
  n : Int
  a : ByteArray
  b : ByteArray
  s : ByteArray
  l : List ByteArray
  keep : List Bool
  lack : Int

/-- What a call does; a new file would lie in block blk. -/
def DiskS.does (D : DiskS) (o : OpS) (blk : Nat) : Int × DiskS :=
  if o.k = 0 then D.create o.a blk else if o.k = 1 then D.write o.a o.n o.s else if o.k = 2 then D.sync o.l else if o.k = 3 then D.cut o.a o.n else
  if o.k = 4 then D.rename o.a o.b else if o.k = 5 then D.delete o.l else if o.k = 6 then (0, D.fuse o.n) else if o.k = 7 then (0, D.crashed o.keep o.lack) else (0, D)

/-- Names and blocks of files are unlike; each waiting write is a file's. -/
structure Form (D : DiskS) : Prop where
  names : (D.files.map (·.name)).Nodup
  blks : (D.files.map (·.blk)).Nodup
  live : ∀ x ∈ D.waits, ∃ f ∈ D.files, f.blk = x.blk
/-- Sizes are within their bounds. -/
structure Good (D : DiskS) : Prop where
  left : D.left ≤ 9223372036854775807
  cap : 0 ≤ D.cap ∧ D.cap ≤ 16777216
  size : (D.size : Int) ≤ D.cap
  image : ∀ f ∈ D.files, f.image.size ≤ f.now.size
  waits : ∀ x ∈ D.waits, ∀ f ∈ D.files, f.blk = x.blk → x.off + x.s.size ≤ f.now.size

theorem DiskIn.form {w : World} {p mb : Nat} {wv : Value} {D : DiskS} (h : DiskIn w p mb wv D) : Form D := ⟨h.names, h.blks, h.live⟩
theorem DiskAt.form {w : World} {p : Nat} {D : DiskS} {F : Nat → Prop} (h : DiskAt w p D F) : Form D := by obtain ⟨mb, wv, h, _⟩ := h; exact h.form

variable {D : DiskS}
theorem total_mem {l : List FileS} {f : FileS} (h : f ∈ l) : f.now.size ≤ total l := by
  obtain ⟨l1, l2, rfl⟩ := List.append_of_mem h
  rw [total_split]; omega
theorem total_map_le {l : List FileS} {g : FileS → FileS} (h : ∀ f ∈ l, (g f).now.size ≤ f.now.size) : total (l.map g) ≤ total l := by
  induction l with
  | nil => exact Nat.le_refl _
  | cons f l ih =>
    have h1 := h f (List.mem_cons_self ..)
    have h2 := ih (fun x hx => h x (List.mem_cons_of_mem _ hx))
    unfold total at h2 ⊢
    simp only [List.map_cons, List.foldr_cons]
    omega
theorem total_map_eq {l : List FileS} {g : FileS → FileS} (h : ∀ f ∈ l, (g f).now.size = f.now.size) : total (l.map g) = total l := by
  induction l with
  | nil => rfl
  | cons f l ih =>
    have h1 := h f (List.mem_cons_self ..)
    have h2 := ih (fun x hx => h x (List.mem_cons_of_mem _ hx))
    unfold total at h2 ⊢
    simp only [List.map_cons, List.foldr_cons]
    omega
theorem total_filter_le (l : List FileS) (q : FileS → Bool) : total (l.filter q) ≤ total l := by
  induction l with
  | nil => exact Nat.le_refl _
  | cons f l ih =>
    unfold total at ih ⊢
    rw [List.filter_cons]
    split <;> simp only [List.map_cons, List.foldr_cons] <;> omega
theorem total_append (l1 l2 : List FileS) : total (l1 ++ l2) = total l1 + total l2 := by
  unfold total
  induction l1 with
  | nil => simp
  | cons g l ih => simp only [List.cons_append, List.map_cons, List.foldr_cons] at ih ⊢; omega
theorem Good.file (h : Good D) {f : FileS} (hf : f ∈ D.files) : f.now.size ≤ 16777216 ∧ f.image.size ≤ 16777216 := by
  have h1 := total_mem hf
  have h2 := h.size
  have h3 := h.cap.2
  have h4 := h.image f hf
  unfold DiskS.size at h2
  omega
theorem Good.wait (h : Good D) (hF : Form D) {x : WaitS} (hx : x ∈ D.waits) : x.off + x.s.size ≤ 16777216 := by
  obtain ⟨f, hf, he⟩ := hF.live x hx
  have := h.waits x hx f hf he
  have := (h.file hf).1
  omega
theorem Good.sizeN (h : Good D) : D.size ≤ 16777216 := by have := h.size; have := h.cap.2; omega

/-- The files are those that were but for one, in whose place another one of its name and block stands. -/
theorem turn_split (hF : Form D) {n : ByteArray} {f : FileS} (hf : D.find n = some f) (g : FileS → FileS) :
    ∃ L1 L2, D.files = L1 ++ f :: L2 ∧ (D.turn n g).files = L1 ++ g f :: L2 ∧ (∀ x ∈ L1 ++ L2, x.name ≠ n ∧ x.blk ≠ f.blk) := by
  obtain ⟨hm, hn⟩ := find_some hf
  obtain ⟨L1, L2, hL⟩ := List.append_of_mem hm
  have h1 := hF.names
  have h2 := hF.blks
  rw [hL, List.map_append, List.map_cons, List.nodup_append, List.nodup_cons] at h1 h2
  have hne : ∀ x ∈ L1 ++ L2, x.name ≠ n ∧ x.blk ≠ f.blk := by
    intro x hx
    rcases List.mem_append.1 hx with hx | hx
    · exact ⟨fun e => h1.2.2 x.name (List.mem_map.2 ⟨x, hx, rfl⟩) f.name (List.mem_cons_self ..) (by rw [e, hn]), fun e => h2.2.2 x.blk (List.mem_map.2 ⟨x, hx, rfl⟩) f.blk (List.mem_cons_self ..) e⟩
    · exact ⟨fun e => h1.2.1.1 (by rw [hn, ← e]; exact List.mem_map.2 ⟨x, hx, rfl⟩), fun e => h2.2.1.1 (by rw [← e]; exact List.mem_map.2 ⟨x, hx, rfl⟩)⟩
  refine ⟨L1, L2, hL, ?_, hne⟩
  unfold DiskS.turn
  simp only [hL, List.map_append, List.map_cons, if_pos hn]
  have e1 : ∀ L : List FileS, (∀ x ∈ L, x.name ≠ n) → L.map (fun x => if x.name = n then g x else x) = L := by
    intro L h
    conv => rhs; rw [← List.map_id L]
    exact List.map_congr_left fun x hx => if_neg (h x hx)
  rw [e1 L1 (fun x hx => (hne x (List.mem_append_left _ hx)).1), e1 L2 (fun x hx => (hne x (List.mem_append_right _ hx)).1)]
theorem turn_mem (hF : Form D) {n : ByteArray} {f : FileS} (hf : D.find n = some f) {g : FileS → FileS} {y : FileS} (hy : y ∈ (D.turn n g).files) : y = g f ∨ (y ∈ D.files ∧ y.name ≠ n ∧ y.blk ≠ f.blk) := by
  obtain ⟨L1, L2, h1, h2, h3⟩ := turn_split hF hf g
  rw [h2] at hy
  rw [h1]
  rcases List.mem_append.1 hy with hy | hy
  · exact .inr ⟨List.mem_append_left _ hy, h3 y (List.mem_append_left _ hy)⟩
  · rcases List.mem_cons.1 hy with rfl | hy
    · exact .inl rfl
    · exact .inr ⟨List.mem_append_right _ (List.mem_cons_of_mem _ hy), h3 y (List.mem_append_right _ hy)⟩

theorem Good.burn (h : Good D) : Good D.burn := by
  obtain ⟨e1, e2, e3⟩ := burn_files (D := D)
  refine ⟨?_, by rw [e3]; exact h.cap, by unfold DiskS.size; rw [e1, e3]; exact h.size, by rw [e1]; exact h.image, by rw [e1, e2]; exact h.waits⟩
  have := h.left
  unfold DiskS.burn; split
  · show (-1 : Int) ≤ _; omega
  · split
    · show D.left - 1 ≤ _; omega
    · exact this
theorem Form.burn (h : Form D) : Form D.burn := by
  obtain ⟨e1, e2, e3⟩ := burn_files (D := D)
  exact ⟨by rw [e1]; exact h.names, by rw [e1]; exact h.blks, by rw [e1, e2]; exact h.live⟩
theorem Good.doing (h : Good D) {f : DiskS → DiskS} (hf : Good D.burn → Good (f D.burn)) : Good (D.doing f).2 := by
  unfold DiskS.doing; split
  · exact h.burn
  · exact hf h.burn

theorem Good.create (h : Good D) (hF : Form D) (n : ByteArray) (b : Nat) (hb : ∀ f ∈ D.files, f.blk ≠ b) : Good (D.create n b).2 := by
  unfold DiskS.create
  split
  · exact h
  · split
    · exact h
    · refine h.doing fun hb' => ⟨hb'.left, hb'.cap, ?_, ?_, ?_⟩
      · have := hb'.size
        unfold DiskS.size at this ⊢
        rw [total_append, show total [(⟨n, b, ⟨#[]⟩, ⟨#[]⟩⟩ : FileS)] = 0 from rfl]
        exact this
      · intro f hf
        rcases List.mem_append.1 hf with hf | hf
        · exact hb'.image f hf
        · rw [List.mem_singleton] at hf; subst hf; exact Nat.le_refl _
      · intro x hx f hf he
        rcases List.mem_append.1 hf with hf | hf
        · exact hb'.waits x hx f hf he
        · rw [List.mem_singleton] at hf; subst hf
          obtain ⟨g, hg, hge⟩ := hF.burn.live x hx
          rw [burn_files.1] at hg
          exact absurd (hge.trans he.symm) (hb g hg)

theorem laid_le (s : ByteArray) (k : Nat) (o : ByteArray) (ho : o.size ≠ 0) : s.size ≤ (laid s k o).size ∧ k + o.size ≤ (laid s k o).size := by
  unfold laid laidL pad
  rw [if_neg (by intro h; apply ho; simpa using congrArg List.length h)]
  show s.size ≤ (_ : List UInt8).toArray.size ∧ k + o.size ≤ (_ : List UInt8).toArray.size
  simp; omega
theorem Good.write (h : Good D) (hF : Form D) (n : ByteArray) (k : Int) (s : ByteArray) : Good (D.write n k s).2 := by
  unfold DiskS.write
  split
  · exact h
  · split
    · exact h
    · rename_i f hf
      split
      · exact h
      · rename_i hr
        split
        · exact h
        · rename_i hroom
          refine h.doing fun hb => ?_
          split
          · exact hb
          · rename_i hs
            have hfb : D.burn.find n = some f := by rw [burn_find]; exact hf
            obtain ⟨L1, L2, e1, e2, e3⟩ := turn_split hF.burn hfb (fun f => { f with now := laid f.now k.toNat s })
            have hsz := hb.size
            have hle := laid_size f.now k.toNat s
            have hge := laid_le f.now k.toNat s hs
            have hmf := (find_some hfb).1
            have hsize : D.burn.size = D.size := by unfold DiskS.size; rw [burn_files.1]
            have hcap : D.burn.cap = D.cap := burn_files.2.2
            refine ⟨hb.left, hb.cap, ?_, ?_, ?_⟩
            · unfold DiskS.size at hsz hsize hroom ⊢
              show (total (D.burn.turn n _).files : Int) ≤ D.burn.cap
              rw [e2, total_split]
              rw [e1, total_split] at hsz
              rw [← burn_files (D := D) |>.1, e1, total_split] at hroom
              simp only
              omega
            · intro y hy
              rcases turn_mem hF.burn hfb hy with rfl | ⟨hy, _⟩
              · have := hb.image f hmf
                simp only
                omega
              · exact hb.image y hy
            · intro x hx y hy he
              rcases List.mem_append.1 hx with hx | hx
              · rcases turn_mem hF.burn hfb hy with rfl | ⟨hy, _⟩
                · have := hb.waits x hx f hmf he
                  simp only
                  omega
                · exact hb.waits x hx y hy he
              · rw [List.mem_singleton] at hx
                subst hx
                rcases turn_mem hF.burn hfb hy with rfl | ⟨hy, _, hne⟩
                · exact hge.2
                · exact absurd he hne

theorem Form.last (hF : Form D) (n : ByteArray) : Form (D.last n) := by
  unfold DiskS.last
  cases hf : D.find n with
  | none => exact hF
  | some f =>
    have hs := turn_same (D := D) (n := n) (g := fun f => { f with image := f.now }) (fun _ => ⟨rfl, rfl⟩)
    have hn : (D.turn n (fun f => { f with image := f.now })).files.map (·.name) = D.files.map (·.name) := by
      have := congrArg (List.map fun x : Value × Value => match x.1 with | .string s => s | _ => ByteArray.empty) hs.1
      simpa [List.map_map, Function.comp_def, encF] using this
    refine ⟨by show ((D.turn n _).files.map (·.name)).Nodup; rw [hn]; exact hF.names, by show ((D.turn n _).files.map (·.blk)).Nodup; rw [hs.2]; exact hF.blks, ?_⟩
    intro x hx
    have hx' := (List.mem_filter.1 hx).1
    obtain ⟨y, hy, he⟩ := hF.live x hx'
    have : y.blk ∈ (D.turn n (fun f => { f with image := f.now })).files.map (·.blk) := by rw [hs.2]; exact List.mem_map.2 ⟨y, hy, rfl⟩
    obtain ⟨z, hz, hze⟩ := List.mem_map.1 this
    exact ⟨z, hz, hze.trans he⟩
theorem Good.last (h : Good D) (hF : Form D) (n : ByteArray) : Good (D.last n) ∧ (D.last n).size = D.size := by
  unfold DiskS.last
  cases hf : D.find n with
  | none => exact ⟨h, rfl⟩
  | some f =>
    have hsz : (D.turn n (fun f => { f with image := f.now })).size = D.size := total_map_eq (fun x _ => by split <;> rfl)
    refine ⟨⟨h.left, h.cap, by show ((D.turn n _).size : Int) ≤ _; rw [hsz]; exact h.size, ?_, ?_⟩, hsz⟩
    · intro y hy
      rcases turn_mem hF hf hy with rfl | ⟨hy, _⟩
      · exact Nat.le_refl _
      · exact h.image y hy
    · intro x hx y hy he
      have hx' := (List.mem_filter.1 hx).1
      rcases turn_mem hF hf hy with rfl | ⟨hy, _⟩
      · exact h.waits x hx' f (find_some hf).1 he
      · exact h.waits x hx' y hy he
theorem Good.lasts (l : List ByteArray) : ∀ {D : DiskS}, Good D → Form D → Good (l.foldl DiskS.last D) ∧ (l.foldl DiskS.last D).size = D.size := by
  induction l with
  | nil => exact fun h _ => ⟨h, rfl⟩
  | cons n l ih =>
    intro D h hF
    obtain ⟨h1, h2⟩ := h.last hF n
    obtain ⟨h3, h4⟩ := ih h1 (hF.last n)
    exact ⟨h3, h4.trans h2⟩
theorem Good.sync (h : Good D) (hF : Form D) (l : List ByteArray) : Good (D.sync l).2 := by
  unfold DiskS.sync; split
  · exact h
  · exact h.doing fun hb => (Good.lasts l hb hF.burn).1

theorem Good.cut (h : Good D) (hF : Form D) (n : ByteArray) (k : Int) : Good (D.cut n k).2 := by
  unfold DiskS.cut
  split
  · exact h
  · split
    · exact h
    · rename_i f hf
      split
      · exact h
      · rename_i hr
        refine h.doing fun hb => ?_
        have hfb : D.burn.find n = some f := by rw [burn_find]; exact hf
        have hft : (D.burn.turn n (fun f => { f with now := f.now.extract 0 k.toNat })).find n = some { f with now := f.now.extract 0 k.toNat } := by
          have hm := (find_some hfb)
          obtain ⟨L1, L2, e1, e2, e3⟩ := turn_split hF.burn hfb (fun f => { f with now := f.now.extract 0 k.toNat })
          unfold DiskS.find
          rw [e2, List.find?_append, List.find?_cons]
          have : L1.find? (fun f => decide (f.name = n)) = none := by
            rw [List.find?_eq_none]; intro x hx; simpa using (e3 x (List.mem_append_left _ hx)).1
          simp [this, hm.2]
        unfold DiskS.last
        rw [hft]
        simp only
        have hsz : ∀ x : FileS, (x.now.extract 0 k.toNat).size ≤ x.now.size := fun x => by rw [ByteArray.size_extract]; omega
        refine ⟨hb.left, hb.cap, ?_, ?_, ?_⟩
        · have h1 : ((D.burn.turn n (fun f => { f with now := f.now.extract 0 k.toNat })).turn n (fun f => { f with image := f.now })).size ≤ D.burn.size := by
            refine Nat.le_trans (total_map_le (fun x _ => by split <;> exact Nat.le_refl _)) ?_
            exact total_map_le (fun x _ => by split; exact hsz x; exact Nat.le_refl _)
          exact Int.le_trans (Int.ofNat_le.2 h1) hb.size
        · intro y hy
          have hy' : y ∈ (D.burn.turn n (fun f => ({ f with now := f.now.extract 0 k.toNat, image := f.now.extract 0 k.toNat } : FileS))).files := by
            unfold DiskS.turn at hy ⊢
            simp only [DiskS.without, List.map_map] at hy
            obtain ⟨z, hz, rfl⟩ := List.mem_map.1 hy
            refine List.mem_map.2 ⟨z, hz, ?_⟩
            simp only [Function.comp]
            by_cases hzn : z.name = n
            · simp [hzn]
            · simp [hzn]
          rcases turn_mem hF.burn hfb hy' with rfl | ⟨hy, _⟩
          · exact Nat.le_refl _
          · exact hb.image y hy
        · intro x hx y hy he
          have hx' := List.mem_filter.1 hx
          have hy' : y ∈ (D.burn.turn n (fun f => ({ f with now := f.now.extract 0 k.toNat, image := f.now.extract 0 k.toNat } : FileS))).files := by
            unfold DiskS.turn at hy ⊢
            simp only [DiskS.without, List.map_map] at hy
            obtain ⟨z, hz, rfl⟩ := List.mem_map.1 hy
            refine List.mem_map.2 ⟨z, hz, ?_⟩
            simp only [Function.comp]
            by_cases hzn : z.name = n
            · simp [hzn]
            · simp [hzn]
          rcases turn_mem hF.burn hfb hy' with rfl | ⟨hy, _⟩
          · have := hx'.2
            simp only [Bool.not_eq_true', decide_eq_false_iff_not] at this
            exact absurd he.symm this
          · exact hb.waits x hx'.1 y hy he

theorem Form.drop (hF : Form D) (n : ByteArray) : Form (D.drop n) := by
  unfold DiskS.drop
  cases hf : D.find n with
  | none => exact hF
  | some f =>
    have hs : ∀ {β : Type} (q : FileS → β), (D.files.map q).Nodup → ((D.files.filter fun x => !decide (x.name = n)).map q).Nodup := fun q h => h.sublist ((List.filter_sublist).map q)
    refine ⟨hs _ hF.names, hs _ hF.blks, ?_⟩
    intro x hx
    obtain ⟨hx1, hx2⟩ := List.mem_filter.1 hx
    obtain ⟨g, hg, he⟩ := hF.live x hx1
    refine ⟨g, List.mem_filter.2 ⟨hg, ?_⟩, he⟩
    simp only [Bool.not_eq_true', decide_eq_false_iff_not] at hx2 ⊢
    intro e
    obtain ⟨h1, h2⟩ := find_some hf
    have : g = f := nodup_inj hF.names hg h1 (by rw [e, h2])
    subst this
    exact hx2 he.symm
theorem Good.drop (h : Good D) (n : ByteArray) : Good (D.drop n) := by
  unfold DiskS.drop
  cases hf : D.find n with
  | none => exact h
  | some f =>
    refine ⟨h.left, h.cap, ?_, fun y hy => h.image y (List.mem_filter.1 hy).1, fun x hx y hy he => h.waits x (List.mem_filter.1 hx).1 y (List.mem_filter.1 hy).1 he⟩
    have h1 := h.size
    have h2 := total_filter_le D.files (fun x => !decide (x.name = n))
    unfold DiskS.size at h1 ⊢
    show (total (D.files.filter _) : Int) ≤ D.cap
    omega
theorem Good.drops (l : List ByteArray) : ∀ {D : DiskS}, Good D → Good (l.foldl DiskS.drop D) := by
  induction l with
  | nil => exact fun h => h
  | cons n l ih => exact fun h => ih (h.drop n)
theorem Good.delete (h : Good D) (l : List ByteArray) : Good (D.delete l).2 := by
  unfold DiskS.delete; split
  · exact h
  · exact h.doing fun hb => Good.drops l hb
theorem Good.rename (h : Good D) (hF : Form D) (a b : ByteArray) : Good (D.rename a b).2 := by
  unfold DiskS.rename
  split
  · exact h
  · split
    · exact h
    · rename_i f hf
      refine h.doing fun hb => ?_
      split
      · exact hb
      · rename_i hab
        have hg := hb.drop b
        have hFd := hF.burn.drop b
        have hfd : (D.burn.drop b).find a = some f := by rw [drop_find hab, burn_find]; exact hf
        obtain ⟨hm, hn⟩ := find_some hfd
        obtain ⟨L1, L2, hL, hne⟩ : ∃ L1 L2, (D.burn.drop b).files = L1 ++ f :: L2 ∧ ∀ x ∈ L1 ++ L2, x.name ≠ a := by
          obtain ⟨L1, L2, e1, _, e3⟩ := turn_split hFd hfd id
          exact ⟨L1, L2, e1, fun x hx => (e3 x hx).1⟩
        have hfil : (D.burn.drop b).files.filter (fun x => !decide (x.name = a)) = L1 ++ L2 := by
          rw [hL, List.filter_append, List.filter_cons]
          have q : ∀ L : List FileS, (∀ x ∈ L, x.name ≠ a) → L.filter (fun x => !decide (x.name = a)) = L := fun L h => List.filter_eq_self.2 (fun x hx => by simpa using h x hx)
          rw [q L1 (fun x hx => hne x (List.mem_append_left _ hx)), q L2 (fun x hx => hne x (List.mem_append_right _ hx))]
          simp [hn]
        have hmem : ∀ y ∈ (L1 ++ L2) ++ [({ f with name := b } : FileS)], ∃ z ∈ (D.burn.drop b).files, z.blk = y.blk ∧ z.now = y.now ∧ z.image = y.image := by
          intro y hy
          rcases List.mem_append.1 hy with hy | hy
          · exact ⟨y, by rw [hL]; rcases List.mem_append.1 hy with h | h <;> simp [h], rfl, rfl, rfl⟩
          · rw [List.mem_singleton] at hy; subst hy; exact ⟨f, hm, rfl, rfl, rfl⟩
        refine ⟨hg.left, hg.cap, ?_, ?_, ?_⟩
        · have h1 := hg.size
          unfold DiskS.size at h1 ⊢
          simp only
          rw [hfil, total_append]
          rw [hL, total_split] at h1
          have : total [({ f with name := b } : FileS)] = f.now.size := by simp [total]
          rw [this]
          omega
        · intro y hy
          simp only at hy
          rw [hfil] at hy
          obtain ⟨z, hz, _, e2, e3⟩ := hmem y hy
          rw [← e2, ← e3]; exact hg.image z hz
        · intro x hx y hy he
          simp only at hy
          rw [hfil] at hy
          obtain ⟨z, hz, e1, e2, _⟩ := hmem y hy
          rw [← e2]; exact hg.waits x hx z hz (e1.trans he)
theorem Good.fuse (h : Good D) (n : Int) (hn : n ≤ 9223372036854775807) : Good (D.fuse n) := by
  refine ⟨?_, h.cap, h.size, h.image, h.waits⟩
  show max n (-1) ≤ _
  omega
theorem lays_size2 (B : Nat) (b : Nat) : ∀ (K : List WaitS) (image : ByteArray), image.size ≤ B → (∀ y ∈ K, y.blk = b → y.off + y.s.size ≤ B) → (lays image b K).size ≤ B
  | [], image, h, _ => h
  | y :: K, image, h, hy => by
    unfold lays
    rw [List.foldl_cons]
    refine lays_size2 B b K _ ?_ (fun z hz => hy z (List.mem_cons_of_mem _ hz))
    split
    · rename_i he
      have := laid_size image y.off y.s
      have := hy y (List.mem_cons_self ..) he
      omega
    · exact h
theorem crashed_file (h : Good D) {keep : List Bool} {lack k : Nat} {f : FileS} (hf : f ∈ D.files) : (lays f.image f.blk (keptTo keep lack D.waits k)).size ≤ f.now.size :=
  lays_size2 _ _ _ _ (h.image f hf) fun y hy he => by
    obtain ⟨x, hx, e1, e2, e3⟩ := keptTo_mem hy
    have := h.waits x hx f hf (by rw [← e1, he])
    omega
theorem Good.crashed (h : Good D) (keep : List Bool) (lack : Int) : Good (D.crashed keep lack) ∧ (D.crashed keep lack).size ≤ D.size := by
  have hsz : (D.crashed keep lack).size ≤ D.size := by
    unfold DiskS.crashed DiskS.imaged DiskS.size
    simp only [List.map_map]
    exact total_map_le (fun f hf => crashed_file h hf)
  refine ⟨⟨by show (-1 : Int) ≤ _; omega, h.cap, ?_, ?_, fun x hx => by cases hx⟩, hsz⟩
  · have := h.size
    show ((D.crashed keep lack).size : Int) ≤ D.cap
    omega
  · intro y hy
    unfold DiskS.crashed at hy
    obtain ⟨z, hz, rfl⟩ := List.mem_map.1 hy
    exact Nat.le_refl _

theorem Good.does (h : Good D) (hF : Form D) (o : OpS) (b : Nat) (hb : ∀ f ∈ D.files, f.blk ≠ b) (hn : o.n ≤ 9223372036854775807) : Good (D.does o b).2 := by
  unfold DiskS.does
  split; exact h.create hF _ _ hb
  split; exact h.write hF _ _ _
  split; exact h.sync hF _
  split; exact h.cut hF _ _
  split; exact h.rename hF _ _
  split; exact h.delete _
  split; exact h.fuse _ hn
  split; exact (h.crashed _ _).1
  exact h
theorem new_good (n : Int) : Good (new n) := ⟨by show (-1 : Int) ≤ _; omega, by show 0 ≤ min (max n 0) 16777216 ∧ _; simp only [new]; omega, by show ((0 : Nat) : Int) ≤ min (max n 0) 16777216; omega, fun f hf => by (cases hf), fun x hx => by (cases hx)⟩

end Go.Proofs.YtdepejneliacpaaGreatDoor.dk
