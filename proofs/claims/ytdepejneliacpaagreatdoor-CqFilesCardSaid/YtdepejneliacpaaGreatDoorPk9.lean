/- Layer 4: Write. -/
import Derived.Test.YtdepejneliacpaaGreatDoorRows
import Derived.WalkKit
import Derived.ProofKit
import Derived.OpenShut
import Derived.Handy
import Derived.Deep.LoopGhost
import Derived.Lib.Hide
import Derived.Lib.Strings
import Derived.SizedLaws
import Derived.Maps.Own
import Derived.Maps.OwnOps
import Derived.Maps.OwnSet
import Derived.Maps.RangeWalk
import Derived.Deep.QuietTactic
import Derived.BigQuiet
import Derived.Deep.RegionHeld3
import Derived.Lib.ConvBytes
import Derived.Lib.AppendZeros
import Derived.Lib.AppendZerosOnto
import Derived.Lib.LazyBuf
import Derived.Shelf.Abstract
import Derived.LaidEql
import Derived.Lib.SliceRun
import Derived.StillTailTactics
import Derived.Test.YtdepejneliacpaaGreatDoorPk8
namespace Go.Proofs.YtdepejneliacpaaGreatDoor.dk
open Go.ChangeShapes Go.WideShapes Go.ChangeAt Go.RowKit

section
variable {w w' w1 : World} {p mb : Nat} {wv wv' : Value} {D : DiskS} {F : Nat → Prop}

/-- What a written file is, ahead of the append of the waiting write. -/
theorem DiskIn.written (h : DiskIn w p mb wv D) {n s : ByteArray} {f : FileS} (hf : D.find n = some f) (j : Nat) :
    DiskIn (w.setCell ⟨f.blk, 1, none⟩ (.string (laid f.now j s))) p mb wv (D.turn n (putF j s)) :=
  h.fileTo hf ((Keeps.refl (· = f.blk) w).setCell (p := ⟨f.blk, 1, none⟩) (.inl rfl) _) (fun _ => ⟨rfl, rfl⟩) (heap_set (h.files f (find_some hf).1) 1 _)

set_option maxRecDepth 100000 in
set_option maxHeartbeats 8000000 in
theorem Write_full (n s : ByteArray) (j : Nat) (f : FileS) (w : World) (h : DiskAt w p D F) (hleft : D.left ≤ 9223372036854775807) (hwl : D.waits.length ≤ 1000000) (hsz : D.size ≤ 1000000000) (hs : s.size ≤ 1000000000) (hcap : 0 ≤ D.cap ∧ D.cap ≤ 16777216)
    (hd : D.down = false) (hf : D.find n = some f) (hnow : f.now.size ≤ 1000000000) (hj : j ≤ f.now.size) (t1 : decide (D.cap - D.size < j + s.size - f.now.size) = true) (t2 : decide ((f.now.size : Int) < j + s.size) = true)  :
    Calls Tryz.prog 113 #[ptrTo p, .string n, .int .i64 j, .string s] w (OpDone (7, D) p F w) := by
  obtain ⟨mb, wv, h, rfl⟩ := h
  have hcalm : Calm w (w.alloc (.cells #[.string n] 9)) := (Calm.refl w).alloc _
  have h1 := h.calm hcalm
  obtain ⟨c0, c1, c2, c3, c4⟩ := h1.cells
  have hlook := h1.look n
  have Hb := box (bars_any (p := p) (mb := mb) (wv := wv) (D := D) (.slice (some ⟨w.heap.size, 0, none⟩) 1 1) [n] (w.alloc (.cells #[.string n] 9)) h1 (StrsAt.one (by go_cell)) (by simp))
  have H1 := box h1
  have Hwl := box hwl
  have Hsz := box hsz
  have Hcap := box hcap
  have Hcalm := box hcalm
  have hh : D.has n = true := by unfold DiskS.has; rw [hf]; rfl
  have hp := ptr_some hf
  obtain ⟨d0, d1, d2, d3⟩ := h1.file hf
  have hfl : f.blk < (w.alloc (.cells #[.string n] 9)).heap.size := heap_lt (h1.files f (find_some hf).1)
  have hb2 := box (show D.bars [n] = 0 by rw [bars_one, hd, hh]; rfl)
  rw [hp] at hlook
  have hj0 : decide ((j : Int) < 0) = false := decide_eq_false (by omega)
  have hj1 : decide ((f.now.size : Int) < j) = false := decide_eq_false (by omega)
  have q1 : IntKind.i64.wrap ((j : Int) + s.size) = j + s.size := IntWalk.i64_in _ (by omega)
  have q2 : IntKind.i64.wrap ((j : Int) + s.size - f.now.size) = j + s.size - f.now.size := IntWalk.i64_in _ (by omega)
  have Hroom := box (fun W (hc : Calm (w.alloc (.cells #[.string n] 9)) W) => Room_any (F := foot p mb wv D) W ⟨mb, wv, H1.out.calm hc, rfl⟩ (by have := Hsz.out; omega) Hcap.out)
  have Hf2 := box (show D.burn.find n = some f by rw [burn_find]; exact hf)
  have Hl := box (fun W => laid_any f.now s j W hnow hs (by omega))
  clear h1 hf hh hd hp hsz hs hnow hwl hcalm h hcap
  go_enter Tryz.func113, Tryz.ntmps113
  go_wp2_with fail
  refine Hb.out.mono ?_
  rw [hb2.out]
  rintro e w' ⟨rfl, rfl⟩
  go_wp2_with fail
  refine wp_region_held_drew (S := fun w' => w'.cell? ⟨f.blk, 1, none⟩ = some (.string f.now)) (by kernel_rfl) (by go_keep) (fun hHeld => ?_)
  ((refine' wpAnyH_take (i := 0) (v := _) rfl (by kernel_rfl) (by kernel_rfl) (by kernel_rfl) (fun _ _ _ h => h) (Or.inl ⟨by rfl, ?hy1⟩) (by assumption) ?rest1; (case hy1 => (intro w hSw; (try dsimp only at hSw); go_simp <;> with_reducible rfl)); simp only [List.getElem_toArray, List.getElem_cons_succ, List.getElem_cons_zero, Act.put, List.setIfInBounds_toArray, List.set_cons_zero, List.set_cons_succ]); (refine' wpAnyH_take (i := 1) (v := _) rfl (by kernel_rfl) (by kernel_rfl) (by kernel_rfl) (fun _ _ _ h => h) (Or.inl ⟨by rfl, ?hy2⟩) (by assumption) ?rest2; (case hy2 => (intro w hSw; (try dsimp only at hSw); go_simp <;> with_reducible rfl)); simp only [List.getElem_toArray, List.getElem_cons_succ, List.getElem_cons_zero, Act.put, List.setIfInBounds_toArray, List.set_cons_zero, List.set_cons_succ]); (refine' wpAnyH_take (i := 2) (v := _) rfl (by kernel_rfl) (by kernel_rfl) (by kernel_rfl) (fun _ _ _ h => h) (Or.inl ⟨by rfl, ?hy3⟩) (by assumption) ?rest3; (case hy3 => (intro w hSw; (try dsimp only at hSw); go_simp <;> with_reducible rfl)); simp only [List.getElem_toArray, List.getElem_cons_succ, List.getElem_cons_zero, Act.put, List.setIfInBounds_toArray, List.set_cons_zero, List.set_cons_succ]); (refine' wpAnyH_take (i := 3) (v := _) rfl (by kernel_rfl) (by kernel_rfl) (by kernel_rfl) (fun _ _ _ h => h) (Or.inl ⟨by rfl, ?hy4⟩) (by assumption) ?rest4; (case hy4 => (intro w hSw; (try dsimp only at hSw); go_simp <;> with_reducible rfl)); simp only [List.getElem_toArray, List.getElem_cons_succ, List.getElem_cons_zero, Act.put, List.setIfInBounds_toArray, List.set_cons_zero, List.set_cons_succ]); (refine' wpAnyH_take (i := 4) (v := _) rfl (by kernel_rfl) (by kernel_rfl) (by kernel_rfl) (fun _ _ _ h => h) (Or.inl ⟨by rfl, ?hy5⟩) (by assumption) ?rest5; (case hy5 => (intro w hSw; (try dsimp only at hSw); go_simp <;> with_reducible rfl)); simp only [List.getElem_toArray, List.getElem_cons_succ, List.getElem_cons_zero, Act.put, List.setIfInBounds_toArray, List.set_cons_zero, List.set_cons_succ]); (refine' wpAnyH_take (i := 5) (v := _) rfl (by kernel_rfl) (by kernel_rfl) (by kernel_rfl) (fun _ _ _ h => h) (Or.inl ⟨by rfl, ?hy6⟩) (by assumption) ?rest6; (case hy6 => (intro w hSw; (try dsimp only at hSw); go_simp <;> with_reducible rfl)); simp only [List.getElem_toArray, List.getElem_cons_succ, List.getElem_cons_zero, Act.put, List.setIfInBounds_toArray, List.set_cons_zero, List.set_cons_succ]); (refine' wpAnyH_take (i := 6) (v := _) rfl (by kernel_rfl) (by kernel_rfl) (by kernel_rfl) (fun _ _ _ h => h) (Or.inl ⟨by rfl, ?hy7⟩) (by assumption) ?rest7; (case hy7 => (intro w hSw; (try dsimp only at hSw); go_simp <;> with_reducible rfl)); simp only [List.getElem_toArray, List.getElem_cons_succ, List.getElem_cons_zero, Act.put, List.setIfInBounds_toArray, List.set_cons_zero, List.set_cons_succ]); (refine' wpAnyH_take (i := 7) (v := _) rfl (by kernel_rfl) (by kernel_rfl) (by kernel_rfl) (fun _ _ _ h => h) (Or.inl ⟨by rfl, ?hy8⟩) (by assumption) ?rest8; (case hy8 => (intro w hSw; (try dsimp only at hSw); go_simp <;> with_reducible rfl)); simp only [List.getElem_toArray, List.getElem_cons_succ, List.getElem_cons_zero, Act.put, List.setIfInBounds_toArray, List.set_cons_zero, List.set_cons_succ]); (refine' wpAnyH_take (i := 8) (v := _) rfl (by kernel_rfl) (by kernel_rfl) (by kernel_rfl) (fun _ _ _ h => h) (Or.inl ⟨by rfl, ?hy9⟩) (by assumption) ?rest9; (case hy9 => (intro w hSw; (try dsimp only at hSw); go_simp <;> with_reducible rfl)); simp only [List.getElem_toArray, List.getElem_cons_succ, List.getElem_cons_zero, Act.put, List.setIfInBounds_toArray, List.set_cons_zero, List.set_cons_succ]); (refine' wpAnyH_take (i := 9) (v := _) rfl (by kernel_rfl) (by kernel_rfl) (by kernel_rfl) (fun _ _ _ h => h) (Or.inl ⟨by rfl, ?hy10⟩) (by assumption) ?rest10; (case hy10 => (intro w hSw; (try dsimp only at hSw); go_simp <;> with_reducible rfl)); simp only [List.getElem_toArray, List.getElem_cons_succ, List.getElem_cons_zero, Act.put, List.setIfInBounds_toArray, List.set_cons_zero, List.set_cons_succ]); (refine' wpAnyH_take (i := 10) (v := _) rfl (by kernel_rfl) (by kernel_rfl) (by kernel_rfl) (fun _ _ _ h => h) (Or.inl ⟨by rfl, ?hy11⟩) (by assumption) ?rest11; (case hy11 => (intro w hSw; (try dsimp only at hSw); go_simp <;> with_reducible rfl)); simp only [List.getElem_toArray, List.getElem_cons_succ, List.getElem_cons_zero, Act.put, List.setIfInBounds_toArray, List.set_cons_zero, List.set_cons_succ]))
  refine wpAnyH_ready (rs := [11]) (by kernel_rfl) (by simp) ?_
  refine AllReadyH.cons rfl (fun K hK => ?_) AllReadyH.nil
  rw [if_pos (by rfl)]
  go_simp
  refine (Hroom.out _ (by (repeat' (first | (with_reducible exact Calm.refl _) | (with_reducible assumption) | (with_reducible refine Calm.drew ?_) | (with_reducible refine Calm.alloc ?_ _) | (with_reducible refine Calm.trans ?_ (by assumption)))))).mono ?_
  rintro e w' ⟨rfl, hb⟩
  go_wp2_with fail
  refine hK.out _ _ ?_ (fun hHeld2 => ?_)
  · show w'.cell? ⟨f.blk, 1, none⟩ = some (.string f.now)
    rw [hb.cell (p := ⟨f.blk, 1, none⟩) hfl]; assumption
  clear hK K
  try simp only [List.getElem_toArray, List.getElem_cons_succ, List.getElem_cons_zero, Act.put, List.setIfInBounds_toArray, List.set_cons_zero, List.set_cons_succ]
  ((refine' wpAnyH_take (i := 12) (v := _) rfl (by kernel_rfl) (by kernel_rfl) (by kernel_rfl) (fun _ _ _ h => h) (Or.inl ⟨by rfl, ?hy12⟩) (by assumption) ?rest12; (case hy12 => (intro w hSw; (try dsimp only at hSw); go_simp <;> with_reducible rfl)); simp only [List.getElem_toArray, List.getElem_cons_succ, List.getElem_cons_zero, Act.put, List.setIfInBounds_toArray, List.set_cons_zero, List.set_cons_succ]); (refine' wpAnyH_take (i := 13) (v := _) rfl (by kernel_rfl) (by kernel_rfl) (by kernel_rfl) (fun _ _ _ h => h) (Or.inl ⟨by rfl, ?hy13⟩) (by assumption) ?rest13; (case hy13 => (intro w hSw; (try dsimp only at hSw); go_simp <;> with_reducible rfl)); simp only [List.getElem_toArray, List.getElem_cons_succ, List.getElem_cons_zero, Act.put, List.setIfInBounds_toArray, List.set_cons_zero, List.set_cons_succ]); (refine' wpAnyH_take (i := 14) (v := _) rfl (by kernel_rfl) (by kernel_rfl) (by kernel_rfl) (fun _ _ _ h => h) (Or.inl ⟨by rfl, ?hy14⟩) (by assumption) ?rest14; (case hy14 => (intro w hSw; (try dsimp only at hSw); go_simp <;> with_reducible rfl)); simp only [List.getElem_toArray, List.getElem_cons_succ, List.getElem_cons_zero, Act.put, List.setIfInBounds_toArray, List.set_cons_zero, List.set_cons_succ]); (refine' wpAnyH_take (i := 15) (v := _) rfl (by kernel_rfl) (by kernel_rfl) (by kernel_rfl) (fun _ _ _ h => h) (Or.inl ⟨by rfl, ?hy15⟩) (by assumption) ?rest15; (case hy15 => (intro w hSw; (try dsimp only at hSw); go_simp <;> with_reducible rfl)); simp only [List.getElem_toArray, List.getElem_cons_succ, List.getElem_cons_zero, Act.put, List.setIfInBounds_toArray, List.set_cons_zero, List.set_cons_succ]); (refine' wpAnyH_take (i := 16) (v := _) rfl (by kernel_rfl) (by kernel_rfl) (by kernel_rfl) (fun _ _ _ h => h) (Or.inl ⟨by rfl, ?hy16⟩) (by assumption) ?rest16; (case hy16 => (intro w hSw; (try dsimp only at hSw); go_simp <;> with_reducible rfl)); simp only [List.getElem_toArray, List.getElem_cons_succ, List.getElem_cons_zero, Act.put, List.setIfInBounds_toArray, List.set_cons_zero, List.set_cons_succ]); (refine' wpAnyH_take (i := 17) (v := _) rfl (by kernel_rfl) (by kernel_rfl) (by kernel_rfl) (fun _ _ _ h => h) (Or.inl ⟨by rfl, ?hy17⟩) (by assumption) ?rest17; (case hy17 => (intro w hSw; (try dsimp only at hSw); go_simp <;> with_reducible rfl)); simp only [List.getElem_toArray, List.getElem_cons_succ, List.getElem_cons_zero, Act.put, List.setIfInBounds_toArray, List.set_cons_zero, List.set_cons_succ]); (refine' wpAnyH_take (i := 18) (v := _) rfl (by kernel_rfl) (by kernel_rfl) (by kernel_rfl) (fun _ _ _ h => h) (Or.inl ⟨by rfl, ?hy18⟩) (by assumption) ?rest18; (case hy18 => (intro w hSw; (try dsimp only at hSw); go_simp <;> with_reducible rfl)); simp only [List.getElem_toArray, List.getElem_cons_succ, List.getElem_cons_zero, Act.put, List.setIfInBounds_toArray, List.set_cons_zero, List.set_cons_succ]); (refine' wpAnyH_take (i := 19) (v := _) rfl (by kernel_rfl) (by kernel_rfl) (by kernel_rfl) (fun _ _ _ h => h) (Or.inl ⟨by rfl, ?hy19⟩) (by assumption) ?rest19; (case hy19 => (intro w hSw; (try dsimp only at hSw); go_simp <;> with_reducible rfl)); simp only [List.getElem_toArray, List.getElem_cons_succ, List.getElem_cons_zero, Act.put, List.setIfInBounds_toArray, List.set_cons_zero, List.set_cons_succ]); (refine' wpAnyH_take (i := 20) (v := _) rfl (by kernel_rfl) (by kernel_rfl) (by kernel_rfl) (fun _ _ _ h => h) (Or.inl ⟨by rfl, ?hy20⟩) (by assumption) ?rest20; (case hy20 => (intro w hSw; (try dsimp only at hSw); go_simp <;> with_reducible rfl)); simp only [List.getElem_toArray, List.getElem_cons_succ, List.getElem_cons_zero, Act.put, List.setIfInBounds_toArray, List.set_cons_zero, List.set_cons_succ]); (refine' wpAnyH_take (i := 21) (v := _) rfl (by kernel_rfl) (by kernel_rfl) (by kernel_rfl) (fun _ _ _ h => h) (Or.inl ⟨by rfl, ?hy21⟩) (by assumption) ?rest21; (case hy21 => (intro w hSw; (try dsimp only at hSw); go_simp <;> with_reducible rfl)); simp only [List.getElem_toArray, List.getElem_cons_succ, List.getElem_cons_zero, Act.put, List.setIfInBounds_toArray, List.set_cons_zero, List.set_cons_succ]); (refine' wpAnyH_take (i := 22) (v := _) rfl (by kernel_rfl) (by kernel_rfl) (by kernel_rfl) (fun _ _ _ h => h) (Or.inl ⟨by rfl, ?hy22⟩) (by assumption) ?rest22; (case hy22 => (intro w hSw; (try dsimp only at hSw); go_simp <;> with_reducible rfl)); simp only [List.getElem_toArray, List.getElem_cons_succ, List.getElem_cons_zero, Act.put, List.setIfInBounds_toArray, List.set_cons_zero, List.set_cons_succ]); (refine' wpAnyH_take (i := 23) (v := _) rfl (by kernel_rfl) (by kernel_rfl) (by kernel_rfl) (fun _ _ _ h => h) (Or.inl ⟨by rfl, ?hy23⟩) (by assumption) ?rest23; (case hy23 => (intro w hSw; (try dsimp only at hSw); go_simp <;> with_reducible rfl)); simp only [List.getElem_toArray, List.getElem_cons_succ, List.getElem_cons_zero, Act.put, List.setIfInBounds_toArray, List.set_cons_zero, List.set_cons_succ]); (refine' wpAnyH_take (i := 24) (v := _) rfl (by kernel_rfl) (by kernel_rfl) (by kernel_rfl) (fun _ _ _ h => h) (Or.inl ⟨by rfl, ?hy24⟩) (by assumption) ?rest24; (case hy24 => (intro w hSw; (try dsimp only at hSw); go_simp <;> with_reducible rfl)); simp only [List.getElem_toArray, List.getElem_cons_succ, List.getElem_cons_zero, Act.put, List.setIfInBounds_toArray, List.set_cons_zero, List.set_cons_succ]); (refine' wpAnyH_take (i := 25) (v := _) rfl (by kernel_rfl) (by kernel_rfl) (by kernel_rfl) (fun _ _ _ h => h) (Or.inl ⟨by rfl, ?hy25⟩) (by assumption) ?rest25; (case hy25 => (intro w hSw; (try dsimp only at hSw); go_simp <;> with_reducible rfl)); simp only [List.getElem_toArray, List.getElem_cons_succ, List.getElem_cons_zero, Act.put, List.setIfInBounds_toArray, List.set_cons_zero, List.set_cons_succ]))
  refine wpAnyH_done (by kernel_rfl) ?_ _
  have hcW : Calm (w.alloc (.cells #[.string n] 9)) w' := by (repeat' (first | (with_reducible exact Calm.refl _) | (with_reducible assumption) | (with_reducible refine Calm.drew ?_) | (with_reducible refine Calm.alloc ?_ _) | (with_reducible refine Calm.trans ?_ (by assumption))))
  have HcW := box hcW
  clear hcW
  go_wp2_with fail
  go_ret
  exact OpDone.of rfl ⟨mb, wv, H1.out.calm HcW.out, rfl⟩ (Step.of_calm (Hcalm.out.trans HcW.out))

set_option maxRecDepth 100000 in
set_option maxHeartbeats 8000000 in
theorem Write_burnF (n s : ByteArray) (j : Nat) (f : FileS) (w : World) (h : DiskAt w p D F) (hleft : D.left ≤ 9223372036854775807) (hwl : D.waits.length ≤ 1000000) (hsz : D.size ≤ 1000000000) (hs : s.size ≤ 1000000000) (hcap : 0 ≤ D.cap ∧ D.cap ≤ 16777216)
    (hd : D.down = false) (hf : D.find n = some f) (hnow : f.now.size ≤ 1000000000) (hj : j ≤ f.now.size) (t1 : decide (D.cap - D.size < j + s.size - f.now.size) = false) (hbn : D.burns = true) :
    Calls Tryz.prog 113 #[ptrTo p, .string n, .int .i64 j, .string s] w (OpDone (8, D.burn) p F w) := by
  have Hbn := box hbn
  clear hbn
  obtain ⟨mb, wv, h, rfl⟩ := h
  have hcalm : Calm w (w.alloc (.cells #[.string n] 9)) := (Calm.refl w).alloc _
  have h1 := h.calm hcalm
  obtain ⟨c0, c1, c2, c3, c4⟩ := h1.cells
  have hlook := h1.look n
  have Hb := box (bars_any (p := p) (mb := mb) (wv := wv) (D := D) (.slice (some ⟨w.heap.size, 0, none⟩) 1 1) [n] (w.alloc (.cells #[.string n] 9)) h1 (StrsAt.one (by go_cell)) (by simp))
  have H1 := box h1
  have Hwl := box hwl
  have Hsz := box hsz
  have Hcap := box hcap
  have Hcalm := box hcalm
  have hh : D.has n = true := by unfold DiskS.has; rw [hf]; rfl
  have hp := ptr_some hf
  obtain ⟨d0, d1, d2, d3⟩ := h1.file hf
  have hfl : f.blk < (w.alloc (.cells #[.string n] 9)).heap.size := heap_lt (h1.files f (find_some hf).1)
  have hb2 := box (show D.bars [n] = 0 by rw [bars_one, hd, hh]; rfl)
  rw [hp] at hlook
  have hj0 : decide ((j : Int) < 0) = false := decide_eq_false (by omega)
  have hj1 : decide ((f.now.size : Int) < j) = false := decide_eq_false (by omega)
  have q1 : IntKind.i64.wrap ((j : Int) + s.size) = j + s.size := IntWalk.i64_in _ (by omega)
  have q2 : IntKind.i64.wrap ((j : Int) + s.size - f.now.size) = j + s.size - f.now.size := IntWalk.i64_in _ (by omega)
  have Hroom := box (fun W (hc : Calm (w.alloc (.cells #[.string n] 9)) W) => Room_any (F := foot p mb wv D) W ⟨mb, wv, H1.out.calm hc, rfl⟩ (by have := Hsz.out; omega) Hcap.out)
  have Hf2 := box (show D.burn.find n = some f by rw [burn_find]; exact hf)
  have Hl := box (fun W => laid_any f.now s j W hnow hs (by omega))
  clear h1 hf hh hd hp hsz hs hnow hwl hcalm h hcap
  go_enter Tryz.func113, Tryz.ntmps113
  go_wp2_with fail
  refine Hb.out.mono ?_
  rw [hb2.out]
  rintro e w' ⟨rfl, rfl⟩
  go_wp2_with fail
  refine wp_region_held_drew (S := fun w' => w'.cell? ⟨f.blk, 1, none⟩ = some (.string f.now)) (by kernel_rfl) (by go_keep) (fun hHeld => ?_)
  ((refine' wpAnyH_take (i := 0) (v := _) rfl (by kernel_rfl) (by kernel_rfl) (by kernel_rfl) (fun _ _ _ h => h) (Or.inl ⟨by rfl, ?hy26⟩) (by assumption) ?rest26; (case hy26 => (intro w hSw; (try dsimp only at hSw); go_simp <;> with_reducible rfl)); simp only [List.getElem_toArray, List.getElem_cons_succ, List.getElem_cons_zero, Act.put, List.setIfInBounds_toArray, List.set_cons_zero, List.set_cons_succ]); (refine' wpAnyH_take (i := 1) (v := _) rfl (by kernel_rfl) (by kernel_rfl) (by kernel_rfl) (fun _ _ _ h => h) (Or.inl ⟨by rfl, ?hy27⟩) (by assumption) ?rest27; (case hy27 => (intro w hSw; (try dsimp only at hSw); go_simp <;> with_reducible rfl)); simp only [List.getElem_toArray, List.getElem_cons_succ, List.getElem_cons_zero, Act.put, List.setIfInBounds_toArray, List.set_cons_zero, List.set_cons_succ]); (refine' wpAnyH_take (i := 2) (v := _) rfl (by kernel_rfl) (by kernel_rfl) (by kernel_rfl) (fun _ _ _ h => h) (Or.inl ⟨by rfl, ?hy28⟩) (by assumption) ?rest28; (case hy28 => (intro w hSw; (try dsimp only at hSw); go_simp <;> with_reducible rfl)); simp only [List.getElem_toArray, List.getElem_cons_succ, List.getElem_cons_zero, Act.put, List.setIfInBounds_toArray, List.set_cons_zero, List.set_cons_succ]); (refine' wpAnyH_take (i := 3) (v := _) rfl (by kernel_rfl) (by kernel_rfl) (by kernel_rfl) (fun _ _ _ h => h) (Or.inl ⟨by rfl, ?hy29⟩) (by assumption) ?rest29; (case hy29 => (intro w hSw; (try dsimp only at hSw); go_simp <;> with_reducible rfl)); simp only [List.getElem_toArray, List.getElem_cons_succ, List.getElem_cons_zero, Act.put, List.setIfInBounds_toArray, List.set_cons_zero, List.set_cons_succ]); (refine' wpAnyH_take (i := 4) (v := _) rfl (by kernel_rfl) (by kernel_rfl) (by kernel_rfl) (fun _ _ _ h => h) (Or.inl ⟨by rfl, ?hy30⟩) (by assumption) ?rest30; (case hy30 => (intro w hSw; (try dsimp only at hSw); go_simp <;> with_reducible rfl)); simp only [List.getElem_toArray, List.getElem_cons_succ, List.getElem_cons_zero, Act.put, List.setIfInBounds_toArray, List.set_cons_zero, List.set_cons_succ]); (refine' wpAnyH_take (i := 5) (v := _) rfl (by kernel_rfl) (by kernel_rfl) (by kernel_rfl) (fun _ _ _ h => h) (Or.inl ⟨by rfl, ?hy31⟩) (by assumption) ?rest31; (case hy31 => (intro w hSw; (try dsimp only at hSw); go_simp <;> with_reducible rfl)); simp only [List.getElem_toArray, List.getElem_cons_succ, List.getElem_cons_zero, Act.put, List.setIfInBounds_toArray, List.set_cons_zero, List.set_cons_succ]); (refine' wpAnyH_take (i := 6) (v := _) rfl (by kernel_rfl) (by kernel_rfl) (by kernel_rfl) (fun _ _ _ h => h) (Or.inl ⟨by rfl, ?hy32⟩) (by assumption) ?rest32; (case hy32 => (intro w hSw; (try dsimp only at hSw); go_simp <;> with_reducible rfl)); simp only [List.getElem_toArray, List.getElem_cons_succ, List.getElem_cons_zero, Act.put, List.setIfInBounds_toArray, List.set_cons_zero, List.set_cons_succ]); (refine' wpAnyH_take (i := 7) (v := _) rfl (by kernel_rfl) (by kernel_rfl) (by kernel_rfl) (fun _ _ _ h => h) (Or.inl ⟨by rfl, ?hy33⟩) (by assumption) ?rest33; (case hy33 => (intro w hSw; (try dsimp only at hSw); go_simp <;> with_reducible rfl)); simp only [List.getElem_toArray, List.getElem_cons_succ, List.getElem_cons_zero, Act.put, List.setIfInBounds_toArray, List.set_cons_zero, List.set_cons_succ]); (refine' wpAnyH_take (i := 8) (v := _) rfl (by kernel_rfl) (by kernel_rfl) (by kernel_rfl) (fun _ _ _ h => h) (Or.inl ⟨by rfl, ?hy34⟩) (by assumption) ?rest34; (case hy34 => (intro w hSw; (try dsimp only at hSw); go_simp <;> with_reducible rfl)); simp only [List.getElem_toArray, List.getElem_cons_succ, List.getElem_cons_zero, Act.put, List.setIfInBounds_toArray, List.set_cons_zero, List.set_cons_succ]); (refine' wpAnyH_take (i := 9) (v := _) rfl (by kernel_rfl) (by kernel_rfl) (by kernel_rfl) (fun _ _ _ h => h) (Or.inl ⟨by rfl, ?hy35⟩) (by assumption) ?rest35; (case hy35 => (intro w hSw; (try dsimp only at hSw); go_simp <;> with_reducible rfl)); simp only [List.getElem_toArray, List.getElem_cons_succ, List.getElem_cons_zero, Act.put, List.setIfInBounds_toArray, List.set_cons_zero, List.set_cons_succ]); (refine' wpAnyH_take (i := 10) (v := _) rfl (by kernel_rfl) (by kernel_rfl) (by kernel_rfl) (fun _ _ _ h => h) (Or.inl ⟨by rfl, ?hy36⟩) (by assumption) ?rest36; (case hy36 => (intro w hSw; (try dsimp only at hSw); go_simp <;> with_reducible rfl)); simp only [List.getElem_toArray, List.getElem_cons_succ, List.getElem_cons_zero, Act.put, List.setIfInBounds_toArray, List.set_cons_zero, List.set_cons_succ]))
  refine wpAnyH_ready (rs := [11]) (by kernel_rfl) (by simp) ?_
  refine AllReadyH.cons rfl (fun K hK => ?_) AllReadyH.nil
  rw [if_pos (by rfl)]
  go_simp
  refine (Hroom.out _ (by (repeat' (first | (with_reducible exact Calm.refl _) | (with_reducible assumption) | (with_reducible refine Calm.drew ?_) | (with_reducible refine Calm.alloc ?_ _) | (with_reducible refine Calm.trans ?_ (by assumption)))))).mono ?_
  rintro e w' ⟨rfl, hb⟩
  go_wp2_with fail
  refine hK.out _ _ ?_ (fun hHeld2 => ?_)
  · show w'.cell? ⟨f.blk, 1, none⟩ = some (.string f.now)
    rw [hb.cell (p := ⟨f.blk, 1, none⟩) hfl]; assumption
  clear hK K
  try simp only [List.getElem_toArray, List.getElem_cons_succ, List.getElem_cons_zero, Act.put, List.setIfInBounds_toArray, List.set_cons_zero, List.set_cons_succ]
  ((refine' wpAnyH_take (i := 12) (v := _) rfl (by kernel_rfl) (by kernel_rfl) (by kernel_rfl) (fun _ _ _ h => h) (Or.inl ⟨by rfl, ?hy37⟩) (by assumption) ?rest37; (case hy37 => (intro w hSw; (try dsimp only at hSw); go_simp <;> with_reducible rfl)); simp only [List.getElem_toArray, List.getElem_cons_succ, List.getElem_cons_zero, Act.put, List.setIfInBounds_toArray, List.set_cons_zero, List.set_cons_succ]); (refine' wpAnyH_take (i := 13) (v := _) rfl (by kernel_rfl) (by kernel_rfl) (by kernel_rfl) (fun _ _ _ h => h) (Or.inl ⟨by rfl, ?hy38⟩) (by assumption) ?rest38; (case hy38 => (intro w hSw; (try dsimp only at hSw); go_simp <;> with_reducible rfl)); simp only [List.getElem_toArray, List.getElem_cons_succ, List.getElem_cons_zero, Act.put, List.setIfInBounds_toArray, List.set_cons_zero, List.set_cons_succ]))
  ((refine' wpAnyH_take (i := 14) (v := _) rfl (by kernel_rfl) (by kernel_rfl) (by kernel_rfl) (fun _ _ _ h => h) (Or.inr ⟨by rfl, rfl⟩) (by assumption) ?rest39; simp only [List.getElem_toArray, List.getElem_cons_succ, List.getElem_cons_zero, Act.put, List.setIfInBounds_toArray, List.set_cons_zero, List.set_cons_succ]); (refine' wpAnyH_take (i := 15) (v := _) rfl (by kernel_rfl) (by kernel_rfl) (by kernel_rfl) (fun _ _ _ h => h) (Or.inr ⟨by rfl, rfl⟩) (by assumption) ?rest40; simp only [List.getElem_toArray, List.getElem_cons_succ, List.getElem_cons_zero, Act.put, List.setIfInBounds_toArray, List.set_cons_zero, List.set_cons_succ]); (refine' wpAnyH_take (i := 16) (v := _) rfl (by kernel_rfl) (by kernel_rfl) (by kernel_rfl) (fun _ _ _ h => h) (Or.inr ⟨by rfl, rfl⟩) (by assumption) ?rest41; simp only [List.getElem_toArray, List.getElem_cons_succ, List.getElem_cons_zero, Act.put, List.setIfInBounds_toArray, List.set_cons_zero, List.set_cons_succ]); (refine' wpAnyH_take (i := 17) (v := _) rfl (by kernel_rfl) (by kernel_rfl) (by kernel_rfl) (fun _ _ _ h => h) (Or.inr ⟨by rfl, rfl⟩) (by assumption) ?rest42; simp only [List.getElem_toArray, List.getElem_cons_succ, List.getElem_cons_zero, Act.put, List.setIfInBounds_toArray, List.set_cons_zero, List.set_cons_succ]); (refine' wpAnyH_take (i := 18) (v := _) rfl (by kernel_rfl) (by kernel_rfl) (by kernel_rfl) (fun _ _ _ h => h) (Or.inr ⟨by rfl, rfl⟩) (by assumption) ?rest43; simp only [List.getElem_toArray, List.getElem_cons_succ, List.getElem_cons_zero, Act.put, List.setIfInBounds_toArray, List.set_cons_zero, List.set_cons_succ]); (refine' wpAnyH_take (i := 19) (v := _) rfl (by kernel_rfl) (by kernel_rfl) (by kernel_rfl) (fun _ _ _ h => h) (Or.inr ⟨by rfl, rfl⟩) (by assumption) ?rest44; simp only [List.getElem_toArray, List.getElem_cons_succ, List.getElem_cons_zero, Act.put, List.setIfInBounds_toArray, List.set_cons_zero, List.set_cons_succ]); (refine' wpAnyH_take (i := 20) (v := _) rfl (by kernel_rfl) (by kernel_rfl) (by kernel_rfl) (fun _ _ _ h => h) (Or.inr ⟨by rfl, rfl⟩) (by assumption) ?rest45; simp only [List.getElem_toArray, List.getElem_cons_succ, List.getElem_cons_zero, Act.put, List.setIfInBounds_toArray, List.set_cons_zero, List.set_cons_succ]); (refine' wpAnyH_take (i := 21) (v := _) rfl (by kernel_rfl) (by kernel_rfl) (by kernel_rfl) (fun _ _ _ h => h) (Or.inr ⟨by rfl, rfl⟩) (by assumption) ?rest46; simp only [List.getElem_toArray, List.getElem_cons_succ, List.getElem_cons_zero, Act.put, List.setIfInBounds_toArray, List.set_cons_zero, List.set_cons_succ]); (refine' wpAnyH_take (i := 22) (v := _) rfl (by kernel_rfl) (by kernel_rfl) (by kernel_rfl) (fun _ _ _ h => h) (Or.inr ⟨by rfl, rfl⟩) (by assumption) ?rest47; simp only [List.getElem_toArray, List.getElem_cons_succ, List.getElem_cons_zero, Act.put, List.setIfInBounds_toArray, List.set_cons_zero, List.set_cons_succ]); (refine' wpAnyH_take (i := 23) (v := _) rfl (by kernel_rfl) (by kernel_rfl) (by kernel_rfl) (fun _ _ _ h => h) (Or.inr ⟨by rfl, rfl⟩) (by assumption) ?rest48; simp only [List.getElem_toArray, List.getElem_cons_succ, List.getElem_cons_zero, Act.put, List.setIfInBounds_toArray, List.set_cons_zero, List.set_cons_succ]))
  ((refine' wpAnyH_take (i := 24) (v := _) rfl (by kernel_rfl) (by kernel_rfl) (by kernel_rfl) (fun _ _ _ h => h) (Or.inl ⟨by rfl, ?hy49⟩) (by assumption) ?rest49; (case hy49 => (intro w hSw; (try dsimp only at hSw); go_simp <;> with_reducible rfl)); simp only [List.getElem_toArray, List.getElem_cons_succ, List.getElem_cons_zero, Act.put, List.setIfInBounds_toArray, List.set_cons_zero, List.set_cons_succ]); (refine' wpAnyH_take (i := 25) (v := _) rfl (by kernel_rfl) (by kernel_rfl) (by kernel_rfl) (fun _ _ _ h => h) (Or.inl ⟨by rfl, ?hy50⟩) (by assumption) ?rest50; (case hy50 => (intro w hSw; (try dsimp only at hSw); go_simp <;> with_reducible rfl)); simp only [List.getElem_toArray, List.getElem_cons_succ, List.getElem_cons_zero, Act.put, List.setIfInBounds_toArray, List.set_cons_zero, List.set_cons_succ]))
  refine wpAnyH_done (by kernel_rfl) ?_ _
  have hcW : Calm (w.alloc (.cells #[.string n] 9)) w' := by (repeat' (first | (with_reducible exact Calm.refl _) | (with_reducible assumption) | (with_reducible refine Calm.drew ?_) | (with_reducible refine Calm.alloc ?_ _) | (with_reducible refine Calm.trans ?_ (by assumption))))
  have HcW := box hcW
  clear hcW
  go_wp2_with fail
  refine (done_any _ (H1.out.calm HcW.out) hleft).mono ?_
  rw [Hbn.out]
  rintro e w2 ⟨rfl, hN⟩
  have HS := box (show Step (foot p mb wv D) w (foot p mb wv D.burn) w2 by rw [foot_burn]; exact (Step.of_calm (Hcalm.out.trans HcW.out)).trans (hN.step (.inl rfl)))
  have HN := box hN
  clear hN
  go_wp2_with fail
  go_ret
  exact OpDone.of rfl ⟨mb, wv, HN.out.disk, rfl⟩ HS.out

set_option maxRecDepth 100000 in
set_option maxHeartbeats 8000000 in
theorem Write_burnTF (n s : ByteArray) (j : Nat) (f : FileS) (w : World) (h : DiskAt w p D F) (hleft : D.left ≤ 9223372036854775807) (hwl : D.waits.length ≤ 1000000) (hsz : D.size ≤ 1000000000) (hs : s.size ≤ 1000000000) (hcap : 0 ≤ D.cap ∧ D.cap ≤ 16777216)
    (hd : D.down = false) (hf : D.find n = some f) (hnow : f.now.size ≤ 1000000000) (hj : j ≤ f.now.size) (t1 : decide (D.cap - D.size < j + s.size - f.now.size) = true) (t2 : decide ((f.now.size : Int) < j + s.size) = false) (hbn : D.burns = true) :
    Calls Tryz.prog 113 #[ptrTo p, .string n, .int .i64 j, .string s] w (OpDone (8, D.burn) p F w) := by
  have Hbn := box hbn
  clear hbn
  obtain ⟨mb, wv, h, rfl⟩ := h
  have hcalm : Calm w (w.alloc (.cells #[.string n] 9)) := (Calm.refl w).alloc _
  have h1 := h.calm hcalm
  obtain ⟨c0, c1, c2, c3, c4⟩ := h1.cells
  have hlook := h1.look n
  have Hb := box (bars_any (p := p) (mb := mb) (wv := wv) (D := D) (.slice (some ⟨w.heap.size, 0, none⟩) 1 1) [n] (w.alloc (.cells #[.string n] 9)) h1 (StrsAt.one (by go_cell)) (by simp))
  have H1 := box h1
  have Hwl := box hwl
  have Hsz := box hsz
  have Hcap := box hcap
  have Hcalm := box hcalm
  have hh : D.has n = true := by unfold DiskS.has; rw [hf]; rfl
  have hp := ptr_some hf
  obtain ⟨d0, d1, d2, d3⟩ := h1.file hf
  have hfl : f.blk < (w.alloc (.cells #[.string n] 9)).heap.size := heap_lt (h1.files f (find_some hf).1)
  have hb2 := box (show D.bars [n] = 0 by rw [bars_one, hd, hh]; rfl)
  rw [hp] at hlook
  have hj0 : decide ((j : Int) < 0) = false := decide_eq_false (by omega)
  have hj1 : decide ((f.now.size : Int) < j) = false := decide_eq_false (by omega)
  have q1 : IntKind.i64.wrap ((j : Int) + s.size) = j + s.size := IntWalk.i64_in _ (by omega)
  have q2 : IntKind.i64.wrap ((j : Int) + s.size - f.now.size) = j + s.size - f.now.size := IntWalk.i64_in _ (by omega)
  have Hroom := box (fun W (hc : Calm (w.alloc (.cells #[.string n] 9)) W) => Room_any (F := foot p mb wv D) W ⟨mb, wv, H1.out.calm hc, rfl⟩ (by have := Hsz.out; omega) Hcap.out)
  have Hf2 := box (show D.burn.find n = some f by rw [burn_find]; exact hf)
  have Hl := box (fun W => laid_any f.now s j W hnow hs (by omega))
  clear h1 hf hh hd hp hsz hs hnow hwl hcalm h hcap
  go_enter Tryz.func113, Tryz.ntmps113
  go_wp2_with fail
  refine Hb.out.mono ?_
  rw [hb2.out]
  rintro e w' ⟨rfl, rfl⟩
  go_wp2_with fail
  refine wp_region_held_drew (S := fun w' => w'.cell? ⟨f.blk, 1, none⟩ = some (.string f.now)) (by kernel_rfl) (by go_keep) (fun hHeld => ?_)
  ((refine' wpAnyH_take (i := 0) (v := _) rfl (by kernel_rfl) (by kernel_rfl) (by kernel_rfl) (fun _ _ _ h => h) (Or.inl ⟨by rfl, ?hy51⟩) (by assumption) ?rest51; (case hy51 => (intro w hSw; (try dsimp only at hSw); go_simp <;> with_reducible rfl)); simp only [List.getElem_toArray, List.getElem_cons_succ, List.getElem_cons_zero, Act.put, List.setIfInBounds_toArray, List.set_cons_zero, List.set_cons_succ]); (refine' wpAnyH_take (i := 1) (v := _) rfl (by kernel_rfl) (by kernel_rfl) (by kernel_rfl) (fun _ _ _ h => h) (Or.inl ⟨by rfl, ?hy52⟩) (by assumption) ?rest52; (case hy52 => (intro w hSw; (try dsimp only at hSw); go_simp <;> with_reducible rfl)); simp only [List.getElem_toArray, List.getElem_cons_succ, List.getElem_cons_zero, Act.put, List.setIfInBounds_toArray, List.set_cons_zero, List.set_cons_succ]); (refine' wpAnyH_take (i := 2) (v := _) rfl (by kernel_rfl) (by kernel_rfl) (by kernel_rfl) (fun _ _ _ h => h) (Or.inl ⟨by rfl, ?hy53⟩) (by assumption) ?rest53; (case hy53 => (intro w hSw; (try dsimp only at hSw); go_simp <;> with_reducible rfl)); simp only [List.getElem_toArray, List.getElem_cons_succ, List.getElem_cons_zero, Act.put, List.setIfInBounds_toArray, List.set_cons_zero, List.set_cons_succ]); (refine' wpAnyH_take (i := 3) (v := _) rfl (by kernel_rfl) (by kernel_rfl) (by kernel_rfl) (fun _ _ _ h => h) (Or.inl ⟨by rfl, ?hy54⟩) (by assumption) ?rest54; (case hy54 => (intro w hSw; (try dsimp only at hSw); go_simp <;> with_reducible rfl)); simp only [List.getElem_toArray, List.getElem_cons_succ, List.getElem_cons_zero, Act.put, List.setIfInBounds_toArray, List.set_cons_zero, List.set_cons_succ]); (refine' wpAnyH_take (i := 4) (v := _) rfl (by kernel_rfl) (by kernel_rfl) (by kernel_rfl) (fun _ _ _ h => h) (Or.inl ⟨by rfl, ?hy55⟩) (by assumption) ?rest55; (case hy55 => (intro w hSw; (try dsimp only at hSw); go_simp <;> with_reducible rfl)); simp only [List.getElem_toArray, List.getElem_cons_succ, List.getElem_cons_zero, Act.put, List.setIfInBounds_toArray, List.set_cons_zero, List.set_cons_succ]); (refine' wpAnyH_take (i := 5) (v := _) rfl (by kernel_rfl) (by kernel_rfl) (by kernel_rfl) (fun _ _ _ h => h) (Or.inl ⟨by rfl, ?hy56⟩) (by assumption) ?rest56; (case hy56 => (intro w hSw; (try dsimp only at hSw); go_simp <;> with_reducible rfl)); simp only [List.getElem_toArray, List.getElem_cons_succ, List.getElem_cons_zero, Act.put, List.setIfInBounds_toArray, List.set_cons_zero, List.set_cons_succ]); (refine' wpAnyH_take (i := 6) (v := _) rfl (by kernel_rfl) (by kernel_rfl) (by kernel_rfl) (fun _ _ _ h => h) (Or.inl ⟨by rfl, ?hy57⟩) (by assumption) ?rest57; (case hy57 => (intro w hSw; (try dsimp only at hSw); go_simp <;> with_reducible rfl)); simp only [List.getElem_toArray, List.getElem_cons_succ, List.getElem_cons_zero, Act.put, List.setIfInBounds_toArray, List.set_cons_zero, List.set_cons_succ]); (refine' wpAnyH_take (i := 7) (v := _) rfl (by kernel_rfl) (by kernel_rfl) (by kernel_rfl) (fun _ _ _ h => h) (Or.inl ⟨by rfl, ?hy58⟩) (by assumption) ?rest58; (case hy58 => (intro w hSw; (try dsimp only at hSw); go_simp <;> with_reducible rfl)); simp only [List.getElem_toArray, List.getElem_cons_succ, List.getElem_cons_zero, Act.put, List.setIfInBounds_toArray, List.set_cons_zero, List.set_cons_succ]); (refine' wpAnyH_take (i := 8) (v := _) rfl (by kernel_rfl) (by kernel_rfl) (by kernel_rfl) (fun _ _ _ h => h) (Or.inl ⟨by rfl, ?hy59⟩) (by assumption) ?rest59; (case hy59 => (intro w hSw; (try dsimp only at hSw); go_simp <;> with_reducible rfl)); simp only [List.getElem_toArray, List.getElem_cons_succ, List.getElem_cons_zero, Act.put, List.setIfInBounds_toArray, List.set_cons_zero, List.set_cons_succ]); (refine' wpAnyH_take (i := 9) (v := _) rfl (by kernel_rfl) (by kernel_rfl) (by kernel_rfl) (fun _ _ _ h => h) (Or.inl ⟨by rfl, ?hy60⟩) (by assumption) ?rest60; (case hy60 => (intro w hSw; (try dsimp only at hSw); go_simp <;> with_reducible rfl)); simp only [List.getElem_toArray, List.getElem_cons_succ, List.getElem_cons_zero, Act.put, List.setIfInBounds_toArray, List.set_cons_zero, List.set_cons_succ]); (refine' wpAnyH_take (i := 10) (v := _) rfl (by kernel_rfl) (by kernel_rfl) (by kernel_rfl) (fun _ _ _ h => h) (Or.inl ⟨by rfl, ?hy61⟩) (by assumption) ?rest61; (case hy61 => (intro w hSw; (try dsimp only at hSw); go_simp <;> with_reducible rfl)); simp only [List.getElem_toArray, List.getElem_cons_succ, List.getElem_cons_zero, Act.put, List.setIfInBounds_toArray, List.set_cons_zero, List.set_cons_succ]))
  refine wpAnyH_ready (rs := [11]) (by kernel_rfl) (by simp) ?_
  refine AllReadyH.cons rfl (fun K hK => ?_) AllReadyH.nil
  rw [if_pos (by rfl)]
  go_simp
  refine (Hroom.out _ (by (repeat' (first | (with_reducible exact Calm.refl _) | (with_reducible assumption) | (with_reducible refine Calm.drew ?_) | (with_reducible refine Calm.alloc ?_ _) | (with_reducible refine Calm.trans ?_ (by assumption)))))).mono ?_
  rintro e w' ⟨rfl, hb⟩
  go_wp2_with fail
  refine hK.out _ _ ?_ (fun hHeld2 => ?_)
  · show w'.cell? ⟨f.blk, 1, none⟩ = some (.string f.now)
    rw [hb.cell (p := ⟨f.blk, 1, none⟩) hfl]; assumption
  clear hK K
  try simp only [List.getElem_toArray, List.getElem_cons_succ, List.getElem_cons_zero, Act.put, List.setIfInBounds_toArray, List.set_cons_zero, List.set_cons_succ]
  ((refine' wpAnyH_take (i := 12) (v := _) rfl (by kernel_rfl) (by kernel_rfl) (by kernel_rfl) (fun _ _ _ h => h) (Or.inl ⟨by rfl, ?hy62⟩) (by assumption) ?rest62; (case hy62 => (intro w hSw; (try dsimp only at hSw); go_simp <;> with_reducible rfl)); simp only [List.getElem_toArray, List.getElem_cons_succ, List.getElem_cons_zero, Act.put, List.setIfInBounds_toArray, List.set_cons_zero, List.set_cons_succ]); (refine' wpAnyH_take (i := 13) (v := _) rfl (by kernel_rfl) (by kernel_rfl) (by kernel_rfl) (fun _ _ _ h => h) (Or.inl ⟨by rfl, ?hy63⟩) (by assumption) ?rest63; (case hy63 => (intro w hSw; (try dsimp only at hSw); go_simp <;> with_reducible rfl)); simp only [List.getElem_toArray, List.getElem_cons_succ, List.getElem_cons_zero, Act.put, List.setIfInBounds_toArray, List.set_cons_zero, List.set_cons_succ]); (refine' wpAnyH_take (i := 14) (v := _) rfl (by kernel_rfl) (by kernel_rfl) (by kernel_rfl) (fun _ _ _ h => h) (Or.inl ⟨by rfl, ?hy64⟩) (by assumption) ?rest64; (case hy64 => (intro w hSw; (try dsimp only at hSw); go_simp <;> with_reducible rfl)); simp only [List.getElem_toArray, List.getElem_cons_succ, List.getElem_cons_zero, Act.put, List.setIfInBounds_toArray, List.set_cons_zero, List.set_cons_succ]); (refine' wpAnyH_take (i := 15) (v := _) rfl (by kernel_rfl) (by kernel_rfl) (by kernel_rfl) (fun _ _ _ h => h) (Or.inl ⟨by rfl, ?hy65⟩) (by assumption) ?rest65; (case hy65 => (intro w hSw; (try dsimp only at hSw); go_simp <;> with_reducible rfl)); simp only [List.getElem_toArray, List.getElem_cons_succ, List.getElem_cons_zero, Act.put, List.setIfInBounds_toArray, List.set_cons_zero, List.set_cons_succ]); (refine' wpAnyH_take (i := 16) (v := _) rfl (by kernel_rfl) (by kernel_rfl) (by kernel_rfl) (fun _ _ _ h => h) (Or.inl ⟨by rfl, ?hy66⟩) (by assumption) ?rest66; (case hy66 => (intro w hSw; (try dsimp only at hSw); go_simp <;> with_reducible rfl)); simp only [List.getElem_toArray, List.getElem_cons_succ, List.getElem_cons_zero, Act.put, List.setIfInBounds_toArray, List.set_cons_zero, List.set_cons_succ]); (refine' wpAnyH_take (i := 17) (v := _) rfl (by kernel_rfl) (by kernel_rfl) (by kernel_rfl) (fun _ _ _ h => h) (Or.inl ⟨by rfl, ?hy67⟩) (by assumption) ?rest67; (case hy67 => (intro w hSw; (try dsimp only at hSw); go_simp <;> with_reducible rfl)); simp only [List.getElem_toArray, List.getElem_cons_succ, List.getElem_cons_zero, Act.put, List.setIfInBounds_toArray, List.set_cons_zero, List.set_cons_succ]); (refine' wpAnyH_take (i := 18) (v := _) rfl (by kernel_rfl) (by kernel_rfl) (by kernel_rfl) (fun _ _ _ h => h) (Or.inl ⟨by rfl, ?hy68⟩) (by assumption) ?rest68; (case hy68 => (intro w hSw; (try dsimp only at hSw); go_simp <;> with_reducible rfl)); simp only [List.getElem_toArray, List.getElem_cons_succ, List.getElem_cons_zero, Act.put, List.setIfInBounds_toArray, List.set_cons_zero, List.set_cons_succ]); (refine' wpAnyH_take (i := 19) (v := _) rfl (by kernel_rfl) (by kernel_rfl) (by kernel_rfl) (fun _ _ _ h => h) (Or.inl ⟨by rfl, ?hy69⟩) (by assumption) ?rest69; (case hy69 => (intro w hSw; (try dsimp only at hSw); go_simp <;> with_reducible rfl)); simp only [List.getElem_toArray, List.getElem_cons_succ, List.getElem_cons_zero, Act.put, List.setIfInBounds_toArray, List.set_cons_zero, List.set_cons_succ]); (refine' wpAnyH_take (i := 20) (v := _) rfl (by kernel_rfl) (by kernel_rfl) (by kernel_rfl) (fun _ _ _ h => h) (Or.inl ⟨by rfl, ?hy70⟩) (by assumption) ?rest70; (case hy70 => (intro w hSw; (try dsimp only at hSw); go_simp <;> with_reducible rfl)); simp only [List.getElem_toArray, List.getElem_cons_succ, List.getElem_cons_zero, Act.put, List.setIfInBounds_toArray, List.set_cons_zero, List.set_cons_succ]); (refine' wpAnyH_take (i := 21) (v := _) rfl (by kernel_rfl) (by kernel_rfl) (by kernel_rfl) (fun _ _ _ h => h) (Or.inl ⟨by rfl, ?hy71⟩) (by assumption) ?rest71; (case hy71 => (intro w hSw; (try dsimp only at hSw); go_simp <;> with_reducible rfl)); simp only [List.getElem_toArray, List.getElem_cons_succ, List.getElem_cons_zero, Act.put, List.setIfInBounds_toArray, List.set_cons_zero, List.set_cons_succ]); (refine' wpAnyH_take (i := 22) (v := _) rfl (by kernel_rfl) (by kernel_rfl) (by kernel_rfl) (fun _ _ _ h => h) (Or.inl ⟨by rfl, ?hy72⟩) (by assumption) ?rest72; (case hy72 => (intro w hSw; (try dsimp only at hSw); go_simp <;> with_reducible rfl)); simp only [List.getElem_toArray, List.getElem_cons_succ, List.getElem_cons_zero, Act.put, List.setIfInBounds_toArray, List.set_cons_zero, List.set_cons_succ]); (refine' wpAnyH_take (i := 23) (v := _) rfl (by kernel_rfl) (by kernel_rfl) (by kernel_rfl) (fun _ _ _ h => h) (Or.inl ⟨by rfl, ?hy73⟩) (by assumption) ?rest73; (case hy73 => (intro w hSw; (try dsimp only at hSw); go_simp <;> with_reducible rfl)); simp only [List.getElem_toArray, List.getElem_cons_succ, List.getElem_cons_zero, Act.put, List.setIfInBounds_toArray, List.set_cons_zero, List.set_cons_succ]); (refine' wpAnyH_take (i := 24) (v := _) rfl (by kernel_rfl) (by kernel_rfl) (by kernel_rfl) (fun _ _ _ h => h) (Or.inl ⟨by rfl, ?hy74⟩) (by assumption) ?rest74; (case hy74 => (intro w hSw; (try dsimp only at hSw); go_simp <;> with_reducible rfl)); simp only [List.getElem_toArray, List.getElem_cons_succ, List.getElem_cons_zero, Act.put, List.setIfInBounds_toArray, List.set_cons_zero, List.set_cons_succ]); (refine' wpAnyH_take (i := 25) (v := _) rfl (by kernel_rfl) (by kernel_rfl) (by kernel_rfl) (fun _ _ _ h => h) (Or.inl ⟨by rfl, ?hy75⟩) (by assumption) ?rest75; (case hy75 => (intro w hSw; (try dsimp only at hSw); go_simp <;> with_reducible rfl)); simp only [List.getElem_toArray, List.getElem_cons_succ, List.getElem_cons_zero, Act.put, List.setIfInBounds_toArray, List.set_cons_zero, List.set_cons_succ]))
  refine wpAnyH_done (by kernel_rfl) ?_ _
  have hcW : Calm (w.alloc (.cells #[.string n] 9)) w' := by (repeat' (first | (with_reducible exact Calm.refl _) | (with_reducible assumption) | (with_reducible refine Calm.drew ?_) | (with_reducible refine Calm.alloc ?_ _) | (with_reducible refine Calm.trans ?_ (by assumption))))
  have HcW := box hcW
  clear hcW
  go_wp2_with fail
  refine (done_any _ (H1.out.calm HcW.out) hleft).mono ?_
  rw [Hbn.out]
  rintro e w2 ⟨rfl, hN⟩
  have HS := box (show Step (foot p mb wv D) w (foot p mb wv D.burn) w2 by rw [foot_burn]; exact (Step.of_calm (Hcalm.out.trans HcW.out)).trans (hN.step (.inl rfl)))
  have HN := box hN
  clear hN
  go_wp2_with fail
  go_ret
  exact OpDone.of rfl ⟨mb, wv, HN.out.disk, rfl⟩ HS.out

set_option maxRecDepth 100000 in
set_option maxHeartbeats 8000000 in
theorem Write_emptyF (n s : ByteArray) (j : Nat) (f : FileS) (w : World) (h : DiskAt w p D F) (hleft : D.left ≤ 9223372036854775807) (hwl : D.waits.length ≤ 1000000) (hsz : D.size ≤ 1000000000) (hs : s.size ≤ 1000000000) (hcap : 0 ≤ D.cap ∧ D.cap ≤ 16777216)
    (hd : D.down = false) (hf : D.find n = some f) (hnow : f.now.size ≤ 1000000000) (hj : j ≤ f.now.size) (t1 : decide (D.cap - D.size < j + s.size - f.now.size) = false) (hbn : D.burns = false) (hs0 : s.size = 0) :
    Calls Tryz.prog 113 #[ptrTo p, .string n, .int .i64 j, .string s] w (OpDone (0, D.burn) p F w) := by
  have Hbn := box hbn
  have he : s.toList = [] := by rw [Lib.toList_data]; exact List.eq_nil_of_length_eq_zero (by simpa using hs0)
  clear hbn hs0
  obtain ⟨mb, wv, h, rfl⟩ := h
  have hcalm : Calm w (w.alloc (.cells #[.string n] 9)) := (Calm.refl w).alloc _
  have h1 := h.calm hcalm
  obtain ⟨c0, c1, c2, c3, c4⟩ := h1.cells
  have hlook := h1.look n
  have Hb := box (bars_any (p := p) (mb := mb) (wv := wv) (D := D) (.slice (some ⟨w.heap.size, 0, none⟩) 1 1) [n] (w.alloc (.cells #[.string n] 9)) h1 (StrsAt.one (by go_cell)) (by simp))
  have H1 := box h1
  have Hwl := box hwl
  have Hsz := box hsz
  have Hcap := box hcap
  have Hcalm := box hcalm
  have hh : D.has n = true := by unfold DiskS.has; rw [hf]; rfl
  have hp := ptr_some hf
  obtain ⟨d0, d1, d2, d3⟩ := h1.file hf
  have hfl : f.blk < (w.alloc (.cells #[.string n] 9)).heap.size := heap_lt (h1.files f (find_some hf).1)
  have hb2 := box (show D.bars [n] = 0 by rw [bars_one, hd, hh]; rfl)
  rw [hp] at hlook
  have hj0 : decide ((j : Int) < 0) = false := decide_eq_false (by omega)
  have hj1 : decide ((f.now.size : Int) < j) = false := decide_eq_false (by omega)
  have q1 : IntKind.i64.wrap ((j : Int) + s.size) = j + s.size := IntWalk.i64_in _ (by omega)
  have q2 : IntKind.i64.wrap ((j : Int) + s.size - f.now.size) = j + s.size - f.now.size := IntWalk.i64_in _ (by omega)
  have Hroom := box (fun W (hc : Calm (w.alloc (.cells #[.string n] 9)) W) => Room_any (F := foot p mb wv D) W ⟨mb, wv, H1.out.calm hc, rfl⟩ (by have := Hsz.out; omega) Hcap.out)
  have Hf2 := box (show D.burn.find n = some f by rw [burn_find]; exact hf)
  have Hl := box (fun W => laid_any f.now s j W hnow hs (by omega))
  clear h1 hf hh hd hp hsz hs hnow hwl hcalm h hcap
  go_enter Tryz.func113, Tryz.ntmps113
  go_wp2_with fail
  refine Hb.out.mono ?_
  rw [hb2.out]
  rintro e w' ⟨rfl, rfl⟩
  go_wp2_with fail
  refine wp_region_held_drew (S := fun w' => w'.cell? ⟨f.blk, 1, none⟩ = some (.string f.now)) (by kernel_rfl) (by go_keep) (fun hHeld => ?_)
  ((refine' wpAnyH_take (i := 0) (v := _) rfl (by kernel_rfl) (by kernel_rfl) (by kernel_rfl) (fun _ _ _ h => h) (Or.inl ⟨by rfl, ?hy76⟩) (by assumption) ?rest76; (case hy76 => (intro w hSw; (try dsimp only at hSw); go_simp <;> with_reducible rfl)); simp only [List.getElem_toArray, List.getElem_cons_succ, List.getElem_cons_zero, Act.put, List.setIfInBounds_toArray, List.set_cons_zero, List.set_cons_succ]); (refine' wpAnyH_take (i := 1) (v := _) rfl (by kernel_rfl) (by kernel_rfl) (by kernel_rfl) (fun _ _ _ h => h) (Or.inl ⟨by rfl, ?hy77⟩) (by assumption) ?rest77; (case hy77 => (intro w hSw; (try dsimp only at hSw); go_simp <;> with_reducible rfl)); simp only [List.getElem_toArray, List.getElem_cons_succ, List.getElem_cons_zero, Act.put, List.setIfInBounds_toArray, List.set_cons_zero, List.set_cons_succ]); (refine' wpAnyH_take (i := 2) (v := _) rfl (by kernel_rfl) (by kernel_rfl) (by kernel_rfl) (fun _ _ _ h => h) (Or.inl ⟨by rfl, ?hy78⟩) (by assumption) ?rest78; (case hy78 => (intro w hSw; (try dsimp only at hSw); go_simp <;> with_reducible rfl)); simp only [List.getElem_toArray, List.getElem_cons_succ, List.getElem_cons_zero, Act.put, List.setIfInBounds_toArray, List.set_cons_zero, List.set_cons_succ]); (refine' wpAnyH_take (i := 3) (v := _) rfl (by kernel_rfl) (by kernel_rfl) (by kernel_rfl) (fun _ _ _ h => h) (Or.inl ⟨by rfl, ?hy79⟩) (by assumption) ?rest79; (case hy79 => (intro w hSw; (try dsimp only at hSw); go_simp <;> with_reducible rfl)); simp only [List.getElem_toArray, List.getElem_cons_succ, List.getElem_cons_zero, Act.put, List.setIfInBounds_toArray, List.set_cons_zero, List.set_cons_succ]); (refine' wpAnyH_take (i := 4) (v := _) rfl (by kernel_rfl) (by kernel_rfl) (by kernel_rfl) (fun _ _ _ h => h) (Or.inl ⟨by rfl, ?hy80⟩) (by assumption) ?rest80; (case hy80 => (intro w hSw; (try dsimp only at hSw); go_simp <;> with_reducible rfl)); simp only [List.getElem_toArray, List.getElem_cons_succ, List.getElem_cons_zero, Act.put, List.setIfInBounds_toArray, List.set_cons_zero, List.set_cons_succ]); (refine' wpAnyH_take (i := 5) (v := _) rfl (by kernel_rfl) (by kernel_rfl) (by kernel_rfl) (fun _ _ _ h => h) (Or.inl ⟨by rfl, ?hy81⟩) (by assumption) ?rest81; (case hy81 => (intro w hSw; (try dsimp only at hSw); go_simp <;> with_reducible rfl)); simp only [List.getElem_toArray, List.getElem_cons_succ, List.getElem_cons_zero, Act.put, List.setIfInBounds_toArray, List.set_cons_zero, List.set_cons_succ]); (refine' wpAnyH_take (i := 6) (v := _) rfl (by kernel_rfl) (by kernel_rfl) (by kernel_rfl) (fun _ _ _ h => h) (Or.inl ⟨by rfl, ?hy82⟩) (by assumption) ?rest82; (case hy82 => (intro w hSw; (try dsimp only at hSw); go_simp <;> with_reducible rfl)); simp only [List.getElem_toArray, List.getElem_cons_succ, List.getElem_cons_zero, Act.put, List.setIfInBounds_toArray, List.set_cons_zero, List.set_cons_succ]); (refine' wpAnyH_take (i := 7) (v := _) rfl (by kernel_rfl) (by kernel_rfl) (by kernel_rfl) (fun _ _ _ h => h) (Or.inl ⟨by rfl, ?hy83⟩) (by assumption) ?rest83; (case hy83 => (intro w hSw; (try dsimp only at hSw); go_simp <;> with_reducible rfl)); simp only [List.getElem_toArray, List.getElem_cons_succ, List.getElem_cons_zero, Act.put, List.setIfInBounds_toArray, List.set_cons_zero, List.set_cons_succ]); (refine' wpAnyH_take (i := 8) (v := _) rfl (by kernel_rfl) (by kernel_rfl) (by kernel_rfl) (fun _ _ _ h => h) (Or.inl ⟨by rfl, ?hy84⟩) (by assumption) ?rest84; (case hy84 => (intro w hSw; (try dsimp only at hSw); go_simp <;> with_reducible rfl)); simp only [List.getElem_toArray, List.getElem_cons_succ, List.getElem_cons_zero, Act.put, List.setIfInBounds_toArray, List.set_cons_zero, List.set_cons_succ]); (refine' wpAnyH_take (i := 9) (v := _) rfl (by kernel_rfl) (by kernel_rfl) (by kernel_rfl) (fun _ _ _ h => h) (Or.inl ⟨by rfl, ?hy85⟩) (by assumption) ?rest85; (case hy85 => (intro w hSw; (try dsimp only at hSw); go_simp <;> with_reducible rfl)); simp only [List.getElem_toArray, List.getElem_cons_succ, List.getElem_cons_zero, Act.put, List.setIfInBounds_toArray, List.set_cons_zero, List.set_cons_succ]); (refine' wpAnyH_take (i := 10) (v := _) rfl (by kernel_rfl) (by kernel_rfl) (by kernel_rfl) (fun _ _ _ h => h) (Or.inl ⟨by rfl, ?hy86⟩) (by assumption) ?rest86; (case hy86 => (intro w hSw; (try dsimp only at hSw); go_simp <;> with_reducible rfl)); simp only [List.getElem_toArray, List.getElem_cons_succ, List.getElem_cons_zero, Act.put, List.setIfInBounds_toArray, List.set_cons_zero, List.set_cons_succ]))
  refine wpAnyH_ready (rs := [11]) (by kernel_rfl) (by simp) ?_
  refine AllReadyH.cons rfl (fun K hK => ?_) AllReadyH.nil
  rw [if_pos (by rfl)]
  go_simp
  refine (Hroom.out _ (by (repeat' (first | (with_reducible exact Calm.refl _) | (with_reducible assumption) | (with_reducible refine Calm.drew ?_) | (with_reducible refine Calm.alloc ?_ _) | (with_reducible refine Calm.trans ?_ (by assumption)))))).mono ?_
  rintro e w' ⟨rfl, hb⟩
  go_wp2_with fail
  refine hK.out _ _ ?_ (fun hHeld2 => ?_)
  · show w'.cell? ⟨f.blk, 1, none⟩ = some (.string f.now)
    rw [hb.cell (p := ⟨f.blk, 1, none⟩) hfl]; assumption
  clear hK K
  try simp only [List.getElem_toArray, List.getElem_cons_succ, List.getElem_cons_zero, Act.put, List.setIfInBounds_toArray, List.set_cons_zero, List.set_cons_succ]
  ((refine' wpAnyH_take (i := 12) (v := _) rfl (by kernel_rfl) (by kernel_rfl) (by kernel_rfl) (fun _ _ _ h => h) (Or.inl ⟨by rfl, ?hy87⟩) (by assumption) ?rest87; (case hy87 => (intro w hSw; (try dsimp only at hSw); go_simp <;> with_reducible rfl)); simp only [List.getElem_toArray, List.getElem_cons_succ, List.getElem_cons_zero, Act.put, List.setIfInBounds_toArray, List.set_cons_zero, List.set_cons_succ]); (refine' wpAnyH_take (i := 13) (v := _) rfl (by kernel_rfl) (by kernel_rfl) (by kernel_rfl) (fun _ _ _ h => h) (Or.inl ⟨by rfl, ?hy88⟩) (by assumption) ?rest88; (case hy88 => (intro w hSw; (try dsimp only at hSw); go_simp <;> with_reducible rfl)); simp only [List.getElem_toArray, List.getElem_cons_succ, List.getElem_cons_zero, Act.put, List.setIfInBounds_toArray, List.set_cons_zero, List.set_cons_succ]))
  ((refine' wpAnyH_take (i := 14) (v := _) rfl (by kernel_rfl) (by kernel_rfl) (by kernel_rfl) (fun _ _ _ h => h) (Or.inr ⟨by rfl, rfl⟩) (by assumption) ?rest89; simp only [List.getElem_toArray, List.getElem_cons_succ, List.getElem_cons_zero, Act.put, List.setIfInBounds_toArray, List.set_cons_zero, List.set_cons_succ]); (refine' wpAnyH_take (i := 15) (v := _) rfl (by kernel_rfl) (by kernel_rfl) (by kernel_rfl) (fun _ _ _ h => h) (Or.inr ⟨by rfl, rfl⟩) (by assumption) ?rest90; simp only [List.getElem_toArray, List.getElem_cons_succ, List.getElem_cons_zero, Act.put, List.setIfInBounds_toArray, List.set_cons_zero, List.set_cons_succ]); (refine' wpAnyH_take (i := 16) (v := _) rfl (by kernel_rfl) (by kernel_rfl) (by kernel_rfl) (fun _ _ _ h => h) (Or.inr ⟨by rfl, rfl⟩) (by assumption) ?rest91; simp only [List.getElem_toArray, List.getElem_cons_succ, List.getElem_cons_zero, Act.put, List.setIfInBounds_toArray, List.set_cons_zero, List.set_cons_succ]); (refine' wpAnyH_take (i := 17) (v := _) rfl (by kernel_rfl) (by kernel_rfl) (by kernel_rfl) (fun _ _ _ h => h) (Or.inr ⟨by rfl, rfl⟩) (by assumption) ?rest92; simp only [List.getElem_toArray, List.getElem_cons_succ, List.getElem_cons_zero, Act.put, List.setIfInBounds_toArray, List.set_cons_zero, List.set_cons_succ]); (refine' wpAnyH_take (i := 18) (v := _) rfl (by kernel_rfl) (by kernel_rfl) (by kernel_rfl) (fun _ _ _ h => h) (Or.inr ⟨by rfl, rfl⟩) (by assumption) ?rest93; simp only [List.getElem_toArray, List.getElem_cons_succ, List.getElem_cons_zero, Act.put, List.setIfInBounds_toArray, List.set_cons_zero, List.set_cons_succ]); (refine' wpAnyH_take (i := 19) (v := _) rfl (by kernel_rfl) (by kernel_rfl) (by kernel_rfl) (fun _ _ _ h => h) (Or.inr ⟨by rfl, rfl⟩) (by assumption) ?rest94; simp only [List.getElem_toArray, List.getElem_cons_succ, List.getElem_cons_zero, Act.put, List.setIfInBounds_toArray, List.set_cons_zero, List.set_cons_succ]); (refine' wpAnyH_take (i := 20) (v := _) rfl (by kernel_rfl) (by kernel_rfl) (by kernel_rfl) (fun _ _ _ h => h) (Or.inr ⟨by rfl, rfl⟩) (by assumption) ?rest95; simp only [List.getElem_toArray, List.getElem_cons_succ, List.getElem_cons_zero, Act.put, List.setIfInBounds_toArray, List.set_cons_zero, List.set_cons_succ]); (refine' wpAnyH_take (i := 21) (v := _) rfl (by kernel_rfl) (by kernel_rfl) (by kernel_rfl) (fun _ _ _ h => h) (Or.inr ⟨by rfl, rfl⟩) (by assumption) ?rest96; simp only [List.getElem_toArray, List.getElem_cons_succ, List.getElem_cons_zero, Act.put, List.setIfInBounds_toArray, List.set_cons_zero, List.set_cons_succ]); (refine' wpAnyH_take (i := 22) (v := _) rfl (by kernel_rfl) (by kernel_rfl) (by kernel_rfl) (fun _ _ _ h => h) (Or.inr ⟨by rfl, rfl⟩) (by assumption) ?rest97; simp only [List.getElem_toArray, List.getElem_cons_succ, List.getElem_cons_zero, Act.put, List.setIfInBounds_toArray, List.set_cons_zero, List.set_cons_succ]); (refine' wpAnyH_take (i := 23) (v := _) rfl (by kernel_rfl) (by kernel_rfl) (by kernel_rfl) (fun _ _ _ h => h) (Or.inr ⟨by rfl, rfl⟩) (by assumption) ?rest98; simp only [List.getElem_toArray, List.getElem_cons_succ, List.getElem_cons_zero, Act.put, List.setIfInBounds_toArray, List.set_cons_zero, List.set_cons_succ]))
  ((refine' wpAnyH_take (i := 24) (v := _) rfl (by kernel_rfl) (by kernel_rfl) (by kernel_rfl) (fun _ _ _ h => h) (Or.inl ⟨by rfl, ?hy99⟩) (by assumption) ?rest99; (case hy99 => (intro w hSw; (try dsimp only at hSw); go_simp <;> with_reducible rfl)); simp only [List.getElem_toArray, List.getElem_cons_succ, List.getElem_cons_zero, Act.put, List.setIfInBounds_toArray, List.set_cons_zero, List.set_cons_succ]); (refine' wpAnyH_take (i := 25) (v := _) rfl (by kernel_rfl) (by kernel_rfl) (by kernel_rfl) (fun _ _ _ h => h) (Or.inl ⟨by rfl, ?hy100⟩) (by assumption) ?rest100; (case hy100 => (intro w hSw; (try dsimp only at hSw); go_simp <;> with_reducible rfl)); simp only [List.getElem_toArray, List.getElem_cons_succ, List.getElem_cons_zero, Act.put, List.setIfInBounds_toArray, List.set_cons_zero, List.set_cons_succ]))
  refine wpAnyH_done (by kernel_rfl) ?_ _
  have hcW : Calm (w.alloc (.cells #[.string n] 9)) w' := by (repeat' (first | (with_reducible exact Calm.refl _) | (with_reducible assumption) | (with_reducible refine Calm.drew ?_) | (with_reducible refine Calm.alloc ?_ _) | (with_reducible refine Calm.trans ?_ (by assumption))))
  have HcW := box hcW
  clear hcW
  go_wp2_with fail
  refine (done_any _ (H1.out.calm HcW.out) hleft).mono ?_
  rw [Hbn.out]
  rintro e w2 ⟨rfl, hN⟩
  have HS := box (show Step (foot p mb wv D) w (foot p mb wv D.burn) w2 by rw [foot_burn]; exact (Step.of_calm (Hcalm.out.trans HcW.out)).trans (hN.step (.inl rfl)))
  have HN := box hN
  clear hN
  go_wp2_with fail
  go_ret
  exact OpDone.of rfl ⟨mb, wv, HN.out.disk, rfl⟩ HS.out

set_option maxRecDepth 100000 in
set_option maxHeartbeats 8000000 in
theorem Write_emptyTF (n s : ByteArray) (j : Nat) (f : FileS) (w : World) (h : DiskAt w p D F) (hleft : D.left ≤ 9223372036854775807) (hwl : D.waits.length ≤ 1000000) (hsz : D.size ≤ 1000000000) (hs : s.size ≤ 1000000000) (hcap : 0 ≤ D.cap ∧ D.cap ≤ 16777216)
    (hd : D.down = false) (hf : D.find n = some f) (hnow : f.now.size ≤ 1000000000) (hj : j ≤ f.now.size) (t1 : decide (D.cap - D.size < j + s.size - f.now.size) = true) (t2 : decide ((f.now.size : Int) < j + s.size) = false) (hbn : D.burns = false) (hs0 : s.size = 0) :
    Calls Tryz.prog 113 #[ptrTo p, .string n, .int .i64 j, .string s] w (OpDone (0, D.burn) p F w) := by
  have Hbn := box hbn
  have he : s.toList = [] := by rw [Lib.toList_data]; exact List.eq_nil_of_length_eq_zero (by simpa using hs0)
  clear hbn hs0
  obtain ⟨mb, wv, h, rfl⟩ := h
  have hcalm : Calm w (w.alloc (.cells #[.string n] 9)) := (Calm.refl w).alloc _
  have h1 := h.calm hcalm
  obtain ⟨c0, c1, c2, c3, c4⟩ := h1.cells
  have hlook := h1.look n
  have Hb := box (bars_any (p := p) (mb := mb) (wv := wv) (D := D) (.slice (some ⟨w.heap.size, 0, none⟩) 1 1) [n] (w.alloc (.cells #[.string n] 9)) h1 (StrsAt.one (by go_cell)) (by simp))
  have H1 := box h1
  have Hwl := box hwl
  have Hsz := box hsz
  have Hcap := box hcap
  have Hcalm := box hcalm
  have hh : D.has n = true := by unfold DiskS.has; rw [hf]; rfl
  have hp := ptr_some hf
  obtain ⟨d0, d1, d2, d3⟩ := h1.file hf
  have hfl : f.blk < (w.alloc (.cells #[.string n] 9)).heap.size := heap_lt (h1.files f (find_some hf).1)
  have hb2 := box (show D.bars [n] = 0 by rw [bars_one, hd, hh]; rfl)
  rw [hp] at hlook
  have hj0 : decide ((j : Int) < 0) = false := decide_eq_false (by omega)
  have hj1 : decide ((f.now.size : Int) < j) = false := decide_eq_false (by omega)
  have q1 : IntKind.i64.wrap ((j : Int) + s.size) = j + s.size := IntWalk.i64_in _ (by omega)
  have q2 : IntKind.i64.wrap ((j : Int) + s.size - f.now.size) = j + s.size - f.now.size := IntWalk.i64_in _ (by omega)
  have Hroom := box (fun W (hc : Calm (w.alloc (.cells #[.string n] 9)) W) => Room_any (F := foot p mb wv D) W ⟨mb, wv, H1.out.calm hc, rfl⟩ (by have := Hsz.out; omega) Hcap.out)
  have Hf2 := box (show D.burn.find n = some f by rw [burn_find]; exact hf)
  have Hl := box (fun W => laid_any f.now s j W hnow hs (by omega))
  clear h1 hf hh hd hp hsz hs hnow hwl hcalm h hcap
  go_enter Tryz.func113, Tryz.ntmps113
  go_wp2_with fail
  refine Hb.out.mono ?_
  rw [hb2.out]
  rintro e w' ⟨rfl, rfl⟩
  go_wp2_with fail
  refine wp_region_held_drew (S := fun w' => w'.cell? ⟨f.blk, 1, none⟩ = some (.string f.now)) (by kernel_rfl) (by go_keep) (fun hHeld => ?_)
  ((refine' wpAnyH_take (i := 0) (v := _) rfl (by kernel_rfl) (by kernel_rfl) (by kernel_rfl) (fun _ _ _ h => h) (Or.inl ⟨by rfl, ?hy101⟩) (by assumption) ?rest101; (case hy101 => (intro w hSw; (try dsimp only at hSw); go_simp <;> with_reducible rfl)); simp only [List.getElem_toArray, List.getElem_cons_succ, List.getElem_cons_zero, Act.put, List.setIfInBounds_toArray, List.set_cons_zero, List.set_cons_succ]); (refine' wpAnyH_take (i := 1) (v := _) rfl (by kernel_rfl) (by kernel_rfl) (by kernel_rfl) (fun _ _ _ h => h) (Or.inl ⟨by rfl, ?hy102⟩) (by assumption) ?rest102; (case hy102 => (intro w hSw; (try dsimp only at hSw); go_simp <;> with_reducible rfl)); simp only [List.getElem_toArray, List.getElem_cons_succ, List.getElem_cons_zero, Act.put, List.setIfInBounds_toArray, List.set_cons_zero, List.set_cons_succ]); (refine' wpAnyH_take (i := 2) (v := _) rfl (by kernel_rfl) (by kernel_rfl) (by kernel_rfl) (fun _ _ _ h => h) (Or.inl ⟨by rfl, ?hy103⟩) (by assumption) ?rest103; (case hy103 => (intro w hSw; (try dsimp only at hSw); go_simp <;> with_reducible rfl)); simp only [List.getElem_toArray, List.getElem_cons_succ, List.getElem_cons_zero, Act.put, List.setIfInBounds_toArray, List.set_cons_zero, List.set_cons_succ]); (refine' wpAnyH_take (i := 3) (v := _) rfl (by kernel_rfl) (by kernel_rfl) (by kernel_rfl) (fun _ _ _ h => h) (Or.inl ⟨by rfl, ?hy104⟩) (by assumption) ?rest104; (case hy104 => (intro w hSw; (try dsimp only at hSw); go_simp <;> with_reducible rfl)); simp only [List.getElem_toArray, List.getElem_cons_succ, List.getElem_cons_zero, Act.put, List.setIfInBounds_toArray, List.set_cons_zero, List.set_cons_succ]); (refine' wpAnyH_take (i := 4) (v := _) rfl (by kernel_rfl) (by kernel_rfl) (by kernel_rfl) (fun _ _ _ h => h) (Or.inl ⟨by rfl, ?hy105⟩) (by assumption) ?rest105; (case hy105 => (intro w hSw; (try dsimp only at hSw); go_simp <;> with_reducible rfl)); simp only [List.getElem_toArray, List.getElem_cons_succ, List.getElem_cons_zero, Act.put, List.setIfInBounds_toArray, List.set_cons_zero, List.set_cons_succ]); (refine' wpAnyH_take (i := 5) (v := _) rfl (by kernel_rfl) (by kernel_rfl) (by kernel_rfl) (fun _ _ _ h => h) (Or.inl ⟨by rfl, ?hy106⟩) (by assumption) ?rest106; (case hy106 => (intro w hSw; (try dsimp only at hSw); go_simp <;> with_reducible rfl)); simp only [List.getElem_toArray, List.getElem_cons_succ, List.getElem_cons_zero, Act.put, List.setIfInBounds_toArray, List.set_cons_zero, List.set_cons_succ]); (refine' wpAnyH_take (i := 6) (v := _) rfl (by kernel_rfl) (by kernel_rfl) (by kernel_rfl) (fun _ _ _ h => h) (Or.inl ⟨by rfl, ?hy107⟩) (by assumption) ?rest107; (case hy107 => (intro w hSw; (try dsimp only at hSw); go_simp <;> with_reducible rfl)); simp only [List.getElem_toArray, List.getElem_cons_succ, List.getElem_cons_zero, Act.put, List.setIfInBounds_toArray, List.set_cons_zero, List.set_cons_succ]); (refine' wpAnyH_take (i := 7) (v := _) rfl (by kernel_rfl) (by kernel_rfl) (by kernel_rfl) (fun _ _ _ h => h) (Or.inl ⟨by rfl, ?hy108⟩) (by assumption) ?rest108; (case hy108 => (intro w hSw; (try dsimp only at hSw); go_simp <;> with_reducible rfl)); simp only [List.getElem_toArray, List.getElem_cons_succ, List.getElem_cons_zero, Act.put, List.setIfInBounds_toArray, List.set_cons_zero, List.set_cons_succ]); (refine' wpAnyH_take (i := 8) (v := _) rfl (by kernel_rfl) (by kernel_rfl) (by kernel_rfl) (fun _ _ _ h => h) (Or.inl ⟨by rfl, ?hy109⟩) (by assumption) ?rest109; (case hy109 => (intro w hSw; (try dsimp only at hSw); go_simp <;> with_reducible rfl)); simp only [List.getElem_toArray, List.getElem_cons_succ, List.getElem_cons_zero, Act.put, List.setIfInBounds_toArray, List.set_cons_zero, List.set_cons_succ]); (refine' wpAnyH_take (i := 9) (v := _) rfl (by kernel_rfl) (by kernel_rfl) (by kernel_rfl) (fun _ _ _ h => h) (Or.inl ⟨by rfl, ?hy110⟩) (by assumption) ?rest110; (case hy110 => (intro w hSw; (try dsimp only at hSw); go_simp <;> with_reducible rfl)); simp only [List.getElem_toArray, List.getElem_cons_succ, List.getElem_cons_zero, Act.put, List.setIfInBounds_toArray, List.set_cons_zero, List.set_cons_succ]); (refine' wpAnyH_take (i := 10) (v := _) rfl (by kernel_rfl) (by kernel_rfl) (by kernel_rfl) (fun _ _ _ h => h) (Or.inl ⟨by rfl, ?hy111⟩) (by assumption) ?rest111; (case hy111 => (intro w hSw; (try dsimp only at hSw); go_simp <;> with_reducible rfl)); simp only [List.getElem_toArray, List.getElem_cons_succ, List.getElem_cons_zero, Act.put, List.setIfInBounds_toArray, List.set_cons_zero, List.set_cons_succ]))
  refine wpAnyH_ready (rs := [11]) (by kernel_rfl) (by simp) ?_
  refine AllReadyH.cons rfl (fun K hK => ?_) AllReadyH.nil
  rw [if_pos (by rfl)]
  go_simp
  refine (Hroom.out _ (by (repeat' (first | (with_reducible exact Calm.refl _) | (with_reducible assumption) | (with_reducible refine Calm.drew ?_) | (with_reducible refine Calm.alloc ?_ _) | (with_reducible refine Calm.trans ?_ (by assumption)))))).mono ?_
  rintro e w' ⟨rfl, hb⟩
  go_wp2_with fail
  refine hK.out _ _ ?_ (fun hHeld2 => ?_)
  · show w'.cell? ⟨f.blk, 1, none⟩ = some (.string f.now)
    rw [hb.cell (p := ⟨f.blk, 1, none⟩) hfl]; assumption
  clear hK K
  try simp only [List.getElem_toArray, List.getElem_cons_succ, List.getElem_cons_zero, Act.put, List.setIfInBounds_toArray, List.set_cons_zero, List.set_cons_succ]
  ((refine' wpAnyH_take (i := 12) (v := _) rfl (by kernel_rfl) (by kernel_rfl) (by kernel_rfl) (fun _ _ _ h => h) (Or.inl ⟨by rfl, ?hy112⟩) (by assumption) ?rest112; (case hy112 => (intro w hSw; (try dsimp only at hSw); go_simp <;> with_reducible rfl)); simp only [List.getElem_toArray, List.getElem_cons_succ, List.getElem_cons_zero, Act.put, List.setIfInBounds_toArray, List.set_cons_zero, List.set_cons_succ]); (refine' wpAnyH_take (i := 13) (v := _) rfl (by kernel_rfl) (by kernel_rfl) (by kernel_rfl) (fun _ _ _ h => h) (Or.inl ⟨by rfl, ?hy113⟩) (by assumption) ?rest113; (case hy113 => (intro w hSw; (try dsimp only at hSw); go_simp <;> with_reducible rfl)); simp only [List.getElem_toArray, List.getElem_cons_succ, List.getElem_cons_zero, Act.put, List.setIfInBounds_toArray, List.set_cons_zero, List.set_cons_succ]); (refine' wpAnyH_take (i := 14) (v := _) rfl (by kernel_rfl) (by kernel_rfl) (by kernel_rfl) (fun _ _ _ h => h) (Or.inl ⟨by rfl, ?hy114⟩) (by assumption) ?rest114; (case hy114 => (intro w hSw; (try dsimp only at hSw); go_simp <;> with_reducible rfl)); simp only [List.getElem_toArray, List.getElem_cons_succ, List.getElem_cons_zero, Act.put, List.setIfInBounds_toArray, List.set_cons_zero, List.set_cons_succ]); (refine' wpAnyH_take (i := 15) (v := _) rfl (by kernel_rfl) (by kernel_rfl) (by kernel_rfl) (fun _ _ _ h => h) (Or.inl ⟨by rfl, ?hy115⟩) (by assumption) ?rest115; (case hy115 => (intro w hSw; (try dsimp only at hSw); go_simp <;> with_reducible rfl)); simp only [List.getElem_toArray, List.getElem_cons_succ, List.getElem_cons_zero, Act.put, List.setIfInBounds_toArray, List.set_cons_zero, List.set_cons_succ]); (refine' wpAnyH_take (i := 16) (v := _) rfl (by kernel_rfl) (by kernel_rfl) (by kernel_rfl) (fun _ _ _ h => h) (Or.inl ⟨by rfl, ?hy116⟩) (by assumption) ?rest116; (case hy116 => (intro w hSw; (try dsimp only at hSw); go_simp <;> with_reducible rfl)); simp only [List.getElem_toArray, List.getElem_cons_succ, List.getElem_cons_zero, Act.put, List.setIfInBounds_toArray, List.set_cons_zero, List.set_cons_succ]); (refine' wpAnyH_take (i := 17) (v := _) rfl (by kernel_rfl) (by kernel_rfl) (by kernel_rfl) (fun _ _ _ h => h) (Or.inl ⟨by rfl, ?hy117⟩) (by assumption) ?rest117; (case hy117 => (intro w hSw; (try dsimp only at hSw); go_simp <;> with_reducible rfl)); simp only [List.getElem_toArray, List.getElem_cons_succ, List.getElem_cons_zero, Act.put, List.setIfInBounds_toArray, List.set_cons_zero, List.set_cons_succ]); (refine' wpAnyH_take (i := 18) (v := _) rfl (by kernel_rfl) (by kernel_rfl) (by kernel_rfl) (fun _ _ _ h => h) (Or.inl ⟨by rfl, ?hy118⟩) (by assumption) ?rest118; (case hy118 => (intro w hSw; (try dsimp only at hSw); go_simp <;> with_reducible rfl)); simp only [List.getElem_toArray, List.getElem_cons_succ, List.getElem_cons_zero, Act.put, List.setIfInBounds_toArray, List.set_cons_zero, List.set_cons_succ]); (refine' wpAnyH_take (i := 19) (v := _) rfl (by kernel_rfl) (by kernel_rfl) (by kernel_rfl) (fun _ _ _ h => h) (Or.inl ⟨by rfl, ?hy119⟩) (by assumption) ?rest119; (case hy119 => (intro w hSw; (try dsimp only at hSw); go_simp <;> with_reducible rfl)); simp only [List.getElem_toArray, List.getElem_cons_succ, List.getElem_cons_zero, Act.put, List.setIfInBounds_toArray, List.set_cons_zero, List.set_cons_succ]); (refine' wpAnyH_take (i := 20) (v := _) rfl (by kernel_rfl) (by kernel_rfl) (by kernel_rfl) (fun _ _ _ h => h) (Or.inl ⟨by rfl, ?hy120⟩) (by assumption) ?rest120; (case hy120 => (intro w hSw; (try dsimp only at hSw); go_simp <;> with_reducible rfl)); simp only [List.getElem_toArray, List.getElem_cons_succ, List.getElem_cons_zero, Act.put, List.setIfInBounds_toArray, List.set_cons_zero, List.set_cons_succ]); (refine' wpAnyH_take (i := 21) (v := _) rfl (by kernel_rfl) (by kernel_rfl) (by kernel_rfl) (fun _ _ _ h => h) (Or.inl ⟨by rfl, ?hy121⟩) (by assumption) ?rest121; (case hy121 => (intro w hSw; (try dsimp only at hSw); go_simp <;> with_reducible rfl)); simp only [List.getElem_toArray, List.getElem_cons_succ, List.getElem_cons_zero, Act.put, List.setIfInBounds_toArray, List.set_cons_zero, List.set_cons_succ]); (refine' wpAnyH_take (i := 22) (v := _) rfl (by kernel_rfl) (by kernel_rfl) (by kernel_rfl) (fun _ _ _ h => h) (Or.inl ⟨by rfl, ?hy122⟩) (by assumption) ?rest122; (case hy122 => (intro w hSw; (try dsimp only at hSw); go_simp <;> with_reducible rfl)); simp only [List.getElem_toArray, List.getElem_cons_succ, List.getElem_cons_zero, Act.put, List.setIfInBounds_toArray, List.set_cons_zero, List.set_cons_succ]); (refine' wpAnyH_take (i := 23) (v := _) rfl (by kernel_rfl) (by kernel_rfl) (by kernel_rfl) (fun _ _ _ h => h) (Or.inl ⟨by rfl, ?hy123⟩) (by assumption) ?rest123; (case hy123 => (intro w hSw; (try dsimp only at hSw); go_simp <;> with_reducible rfl)); simp only [List.getElem_toArray, List.getElem_cons_succ, List.getElem_cons_zero, Act.put, List.setIfInBounds_toArray, List.set_cons_zero, List.set_cons_succ]); (refine' wpAnyH_take (i := 24) (v := _) rfl (by kernel_rfl) (by kernel_rfl) (by kernel_rfl) (fun _ _ _ h => h) (Or.inl ⟨by rfl, ?hy124⟩) (by assumption) ?rest124; (case hy124 => (intro w hSw; (try dsimp only at hSw); go_simp <;> with_reducible rfl)); simp only [List.getElem_toArray, List.getElem_cons_succ, List.getElem_cons_zero, Act.put, List.setIfInBounds_toArray, List.set_cons_zero, List.set_cons_succ]); (refine' wpAnyH_take (i := 25) (v := _) rfl (by kernel_rfl) (by kernel_rfl) (by kernel_rfl) (fun _ _ _ h => h) (Or.inl ⟨by rfl, ?hy125⟩) (by assumption) ?rest125; (case hy125 => (intro w hSw; (try dsimp only at hSw); go_simp <;> with_reducible rfl)); simp only [List.getElem_toArray, List.getElem_cons_succ, List.getElem_cons_zero, Act.put, List.setIfInBounds_toArray, List.set_cons_zero, List.set_cons_succ]))
  refine wpAnyH_done (by kernel_rfl) ?_ _
  have hcW : Calm (w.alloc (.cells #[.string n] 9)) w' := by (repeat' (first | (with_reducible exact Calm.refl _) | (with_reducible assumption) | (with_reducible refine Calm.drew ?_) | (with_reducible refine Calm.alloc ?_ _) | (with_reducible refine Calm.trans ?_ (by assumption))))
  have HcW := box hcW
  clear hcW
  go_wp2_with fail
  refine (done_any _ (H1.out.calm HcW.out) hleft).mono ?_
  rw [Hbn.out]
  rintro e w2 ⟨rfl, hN⟩
  have HS := box (show Step (foot p mb wv D) w (foot p mb wv D.burn) w2 by rw [foot_burn]; exact (Step.of_calm (Hcalm.out.trans HcW.out)).trans (hN.step (.inl rfl)))
  have HN := box hN
  clear hN
  go_wp2_with fail
  go_ret
  exact OpDone.of rfl ⟨mb, wv, HN.out.disk, rfl⟩ HS.out


end
end Go.Proofs.YtdepejneliacpaaGreatDoor.dk
