/- Lemmas for this claim. -/
import Derived.Test.YtjpokaifbnkmhaaGreatDoorPk26
set_option maxRecDepth 100000
namespace Go.Proofs.YtjpokaifbnkmhaaGreatDoor.rc
open Go.ChangeShapes Go.WideShapes Go.ChangeAt Go.RowKit Go.Shelf
open nm vs
theorem repeat_zero : ∀ n : Nat, Lib.repeatL [0] n = List.replicate n 0
 | 0 => rfl
 | n + 1 => by rw [Lib.repeatL, repeat_zero n, List.replicate_succ]; rfl
theorem noughts_any (n : Nat) (w : World) (hn : n ≤ 140737488355328) : Calls Tryz.prog 135 #[.int .i64 n] w fun e w' => e = .returned (.string (zerosB n)) ∧ Calm w w' := by
 have H := box (Tryz.strings_Repeat ⟨#[0]⟩ n w (by omega) (by show 1 * n ≤ _; omega))
 rw [show (⟨#[0]⟩ : ByteArray).data.toList = [0] from rfl, repeat_zero] at H
 go_enter Tryz.func135, Tryz.ntmps135
 go_wp2_with fail
 refine H.out.mono ?_
 rintro e w1 ⟨rfl, hc⟩
 have Hc := box hc
 clear hc
 go_wp2_with fail
 go_ret
 exact ⟨rfl, Hc.out⟩
theorem right4 {q du rt rf bn : Int} {tp tg bd : ByteArray} {ks : List ByteArray} (hn : numsB ⟨4, q, du, rt, rf, bn, tp, tg, bd, ks⟩ = true) : RightP ⟨4, q, du, rt, rf, bn, tp, tg, bd, ks⟩ ↔ (⟨4, q, du, rt, rf, bn, tp, tg, bd, ks⟩ : MsgS) = ⟨4, 0, 0, 0, rf, bn, ⟨#[]⟩, ⟨#[]⟩, ⟨#[]⟩, []⟩ := by
 rw [MsgS.eq_iff]
 unfold RightP
 simp only
 have hz : ∀ b : ByteArray, b.size = 0 ↔ b = ⟨#[]⟩ := fun b => ⟨fun h => ba_ext (List.eq_nil_of_length_eq_zero (by rw [size_toList]; exact h)), fun h => by rw [h]; rfl⟩
 simp only [hz, List.length_eq_zero_iff]
 constructor
 ·rintro ⟨_, ⟨h, _⟩ | ⟨h, _⟩ | ⟨⟨h1, h2, h3, h4, h5, h6⟩, ⟨_, h7⟩ | ⟨h, _⟩⟩⟩
  ·omega
  ·omega
  ·exact ⟨trivial, h1, h3, h2, trivial, trivial, h4, h5, h7, h6⟩
  ·omega
 ·rintro ⟨_, h1, h3, h2, _, _, h4, h5, h7, h6⟩
  exact ⟨hn, .inr (.inr ⟨⟨h1, h2, h3, h4, h5, h6⟩, .inl ⟨trivial, h7⟩⟩)⟩
theorem right0 {q du rt rf bn : Int} {tp tg bd : ByteArray} {ks : List ByteArray} (hn : numsB ⟨0, q, du, rt, rf, bn, tp, tg, bd, ks⟩ = true) : RightP ⟨0, q, du, rt, rf, bn, tp, tg, bd, ks⟩ ↔ bd.size ≤ 1024 ∧ bd = zerosB bd.size ∧ (⟨0, q, du, rt, rf, bn, tp, tg, bd, ks⟩ : MsgS) = ⟨0, 0, 0, 0, 0, 0, ⟨#[]⟩, ⟨#[]⟩, bd, []⟩ := by
 rw [MsgS.eq_iff, zeros_iff]
 unfold RightP
 simp only
 have hz : ∀ b : ByteArray, b.size = 0 ↔ b = ⟨#[]⟩ := fun b => ⟨fun h => ba_ext (List.eq_nil_of_length_eq_zero (by rw [size_toList]; exact h)), fun h => by rw [h]; rfl⟩
 simp only [hz, List.length_eq_zero_iff]
 constructor
 ·rintro ⟨_, ⟨h, _⟩ | ⟨h, _⟩ | ⟨⟨h1, h2, h3, h4, h5, h6⟩, ⟨h, _⟩ | ⟨_, h7, h8, h9, h10⟩⟩⟩
  ·omega
  ·omega
  ·omega
  ·exact ⟨h9, h10, trivial, h1, h3, h2, h7, h8, h4, h5, trivial, h6⟩
 ·rintro ⟨h9, h10, _, h1, h3, h2, h7, h8, h4, h5, _, h6⟩
  exact ⟨hn, .inr (.inr ⟨⟨h1, h2, h3, h4, h5, h6⟩, .inr ⟨trivial, h7, h8, h9, h10⟩⟩)⟩
set_option maxHeartbeats 8000000 in
theorem Right_other (m : MsgS) (kv : Value) (w : World) (hk : StrsAt w kv m.keys) (hl : m.keys.length ≤ 1000000) (hz : m.body.size ≤ 140737488355328) (h3 : m.kind ≠ 1 ∧ m.kind ≠ 2 ∧ m.kind ≠ 3) :
  Calls Tryz.prog 170 #[.agg (msgA m kv)] w fun e w' => e = .returned (.bool (decide (RightP m))) ∧ Calm w w' := by
 have hsame := box (fun (b : MsgS) (kb : Value) W (hW : Calm w W) (hb : StrsAt W kb b.keys) (lb : b.keys.length ≤ 1000000) => Same_any m b kv kb W (hk.calm hW) hb hl lb)
 obtain ⟨kd, q, du, rt, rf, bn, tp, tg, bd, ks⟩ := m
 simp only at hk hl h3 hz
 obtain ⟨h31, h32, h33⟩ := h3
 obtain ⟨r, hr⟩ : ∃ r, decide (RightP ⟨kd, q, du, rt, rf, bn, tp, tg, bd, ks⟩) = r := ⟨_, rfl⟩
 rw [hr]
 have Hr := box hr
 clear hr
 obtain ⟨ka, kcap, rfl, _⟩ := hk.uni
 obtain ⟨W1, hW1⟩ : ∃ W1, w.alloc (.cells (msgA ⟨kd, q, du, rt, rf, bn, tp, tg, bd, ks⟩ (.slice ka ks.length kcap)) 62) = W1 := ⟨_, rfl⟩
 obtain ⟨W2, hW2⟩ : ∃ W2, W1.alloc (.cells #[.int .i64 du, .int .i64 rf, .int .i64 bn] 3) = W2 := ⟨_, rfl⟩
 have Hn := box (show W1.heap[w.heap.size]? = some (.cells (msgA ⟨kd, q, du, rt, rf, bn, tp, tg, bd, ks⟩ (.slice ka ks.length kcap)) 62 (0, 0)) by rw [← hW1]; exact heap_new w _)
 have H0 := box (show Calm w W1 by rw [← hW1]; exact (Calm.refl w).alloc _)
 have H1 := box (show Calm W1 W2 by rw [← hW2]; exact (Calm.refl W1).alloc _)
 have hnum := box (nums_any W1.heap.size du rf bn W2 (by rw [← hW2]; exact heap_new W1 _))
 have H2 := box (heap_calm H1.out Hn.out)
 clear hk hl
 have c2 := cell_of Hn.out 2
 have c4 := cell_of Hn.out 4
 have c5 := cell_of Hn.out 5
 have hlt := heap_lt Hn.out
 go_enter Tryz.func170, Tryz.ntmps170
 go_wp2_with fail
 clear hW1 hW2 c2 c4 c5 hlt
 refine hnum.out.mono ?_
 rintro e w1 ⟨rfl, hc1⟩
 have C1 := box (H0.out.trans (H1.out.trans hc1))
 have J1 := box (heap_calm hc1 H2.out)
 clear hc1
 have c0 := cell_of J1.out 0
 have c1 := cell_of J1.out 1
 have c2 := cell_of J1.out 2
 have c3 := cell_of J1.out 3
 have c4 := cell_of J1.out 4
 have c5 := cell_of J1.out 5
 have c6 := cell_of J1.out 6
 have c7 := cell_of J1.out 7
 have c8 := cell_of J1.out 8
 have c9 := cell_of J1.out 9
 have hlt := heap_lt J1.out
 cases hnb : (numB du && numB rf && numB bn)
 ·go_wp2_with fail
  go_ret
  exact ⟨ret_bool (not_true_of Hr (fun h => by have := h.1; unfold numsB at this; simp only at this; rw [hnb] at this; cases this)), C1.out⟩
 have Hnb := box (show numsB ⟨kd, q, du, rt, rf, bn, tp, tg, bd, ks⟩ = true from hnb)
 clear hnb
 by_cases h4 : kd = 4
 ·subst h4
  have hsam := box (hsame.out ⟨4, 0, 0, 0, rf, bn, ⟨#[]⟩, ⟨#[]⟩, ⟨#[]⟩, []⟩ (.slice none 0 0) w1 C1.out (.inl ⟨rfl, none, 0, rfl⟩) (by simp))
  rw [decide_eq_decide.2 (right4 Hnb.out).symm, Hr.out] at hsam
  go_wp2_with fail
  refine hsam.out.mono ?_
  rintro e w2 ⟨rfl, hc2⟩
  have C2 := box (C1.out.trans hc2)
  clear hc2
  go_wp2_with fail
  go_ret
  exact ⟨rfl, C2.out⟩
 have e1 : (kd == 1) = false := beq_eq_false_iff_ne.2 h31
 have e2 : (kd == 2) = false := beq_eq_false_iff_ne.2 h32
 have e3 : (kd == 3) = false := beq_eq_false_iff_ne.2 h33
 have e4 : (kd == 4) = false := beq_eq_false_iff_ne.2 h4
 by_cases h0 : kd = 0
 ·subst h0
  by_cases h1024 : 1024 < bd.size
  ·have ht : decide ((bd.size : Int) ≤ 1024) = false := decide_eq_false (by omega)
   go_wp2_with (first | go_quiet (fail) | fail)
   go_wp2_with fail
   go_ret
   exact ⟨ret_bool (not_true_of Hr (fun h => by have := ((right0 Hnb.out).1 h).1; omega)), C1.out.drewN _⟩
  have ht : decide ((bd.size : Int) ≤ 1024) = true := decide_eq_true (by omega)
  by_cases hzz : bd = zerosB bd.size
  ·have hze : (bd.toList == (zerosB bd.size).toList) = true := by rw [← hzz]; simp
   have hsam := box (fun (W : World) (hW : Calm w W) => hsame.out ⟨0, 0, 0, 0, 0, 0, ⟨#[]⟩, ⟨#[]⟩, bd, []⟩ (.slice none 0 0) W hW (.inl ⟨rfl, none, 0, rfl⟩) (by simp))
   have hiff : decide ((⟨0, q, du, rt, rf, bn, tp, tg, bd, ks⟩ : MsgS) = ⟨0, 0, 0, 0, 0, 0, ⟨#[]⟩, ⟨#[]⟩, bd, []⟩) = r := by
    rw [← Hr.out]
    exact decide_eq_decide.2 ⟨fun h => (right0 Hnb.out).2 ⟨by omega, hzz, h⟩, fun h => ((right0 Hnb.out).1 h).2.2⟩
   rw [hiff] at hsam
   clear hiff hzz h1024
   go_wp2_with fail
   refine wp_region_held_drew (S := fun w' => w'.cell? ⟨w.heap.size, 0, none⟩ = some (.int .i64 0) ∧ w'.cell? ⟨w.heap.size, 1, none⟩ = some (.int .i64 q) ∧ w'.cell? ⟨w.heap.size, 2, none⟩ = some (.int .i64 du) ∧ w'.cell? ⟨w.heap.size, 3, none⟩ = some (.int .i64 rt) ∧ w'.cell? ⟨w.heap.size, 4, none⟩ = some (.int .i64 rf) ∧ w'.cell? ⟨w.heap.size, 5, none⟩ = some (.int .i64 bn) ∧ w'.cell? ⟨w.heap.size, 6, none⟩ = some (.string tp) ∧ w'.cell? ⟨w.heap.size, 7, none⟩ = some (.string tg) ∧ w'.cell? ⟨w.heap.size, 8, none⟩ = some (.string bd) ∧ w'.cell? ⟨w.heap.size, 9, none⟩ = some (.slice ka ks.length kcap)) (by kernel_rfl) (by go_keep) (fun hHeld => ?_)
   ((refine' wpAnyH_take (i := 0) (v := _) rfl (by kernel_rfl) (by kernel_rfl) (by kernel_rfl) (fun _ _ _ h => h) (Or.inl ⟨by rfl, ?y248⟩) ‹_› ?r248; (case y248 => (intro w hSw; (try dsimp only at hSw); go_simp <;> with_reducible rfl))); (refine' wpAnyH_take (i := 1) (v := _) rfl (by kernel_rfl) (by kernel_rfl) (by kernel_rfl) (fun _ _ _ h => h) (Or.inl ⟨by rfl, ?y249⟩) ‹_› ?r249; (case y249 => (intro w hSw; (try dsimp only at hSw); go_simp <;> with_reducible rfl))); (refine' wpAnyH_take (i := 2) (v := _) rfl (by kernel_rfl) (by kernel_rfl) (by kernel_rfl) (fun _ _ _ h => h) (Or.inl ⟨by rfl, ?y250⟩) ‹_› ?r250; (case y250 => (intro w hSw; (try dsimp only at hSw); go_simp <;> with_reducible rfl))); (refine' wpAnyH_take (i := 3) (v := _) rfl (by kernel_rfl) (by kernel_rfl) (by kernel_rfl) (fun _ _ _ h => h) (Or.inl ⟨by rfl, ?y251⟩) ‹_› ?r251; (case y251 => (intro w hSw; (try dsimp only at hSw); go_simp <;> with_reducible rfl))); (refine' wpAnyH_take (i := 4) (v := _) rfl (by kernel_rfl) (by kernel_rfl) (by kernel_rfl) (fun _ _ _ h => h) (Or.inl ⟨by rfl, ?y252⟩) ‹_› ?r252; (case y252 => (intro w hSw; (try dsimp only at hSw); go_simp <;> with_reducible rfl)); simp only [List.getElem_toArray, List.getElem_cons_succ, List.getElem_cons_zero, Act.put, List.setIfInBounds_toArray, List.set_cons_zero, List.set_cons_succ]); (refine' wpAnyH_take (i := 5) (v := _) rfl (by kernel_rfl) (by kernel_rfl) (by kernel_rfl) (fun _ _ _ h => h) (Or.inl ⟨by rfl, ?y253⟩) ‹_› ?r253; (case y253 => (intro w hSw; (try dsimp only at hSw); go_simp <;> with_reducible rfl))); (refine' wpAnyH_take (i := 6) (v := _) rfl (by kernel_rfl) (by kernel_rfl) (by kernel_rfl) (fun _ _ _ h => h) (Or.inl ⟨by rfl, ?y254⟩) ‹_› ?r254; (case y254 => (intro w hSw; (try dsimp only at hSw); go_simp <;> with_reducible rfl))); (refine' wpAnyH_take (i := 7) (v := _) rfl (by kernel_rfl) (by kernel_rfl) (by kernel_rfl) (fun _ _ _ h => h) (Or.inl ⟨by rfl, ?y255⟩) ‹_› ?r255; (case y255 => (intro w hSw; (try dsimp only at hSw); go_simp <;> with_reducible rfl))); (refine' wpAnyH_take (i := 8) (v := _) rfl (by kernel_rfl) (by kernel_rfl) (by kernel_rfl) (fun _ _ _ h => h) (Or.inl ⟨by rfl, ?y256⟩) ‹_› ?r256; (case y256 => (intro w hSw; (try dsimp only at hSw); go_simp <;> with_reducible rfl))); (refine' wpAnyH_take (i := 9) (v := _) rfl (by kernel_rfl) (by kernel_rfl) (by kernel_rfl) (fun _ _ _ h => h) (Or.inl ⟨by rfl, ?y257⟩) ‹_› ?r257; (case y257 => (intro w hSw; (try dsimp only at hSw); go_simp <;> with_reducible rfl)); simp only [List.getElem_toArray, List.getElem_cons_succ, List.getElem_cons_zero, Act.put, List.setIfInBounds_toArray, List.set_cons_zero, List.set_cons_succ]))
   refine wpAnyH_ready (rs := [10]) (by kernel_rfl) (by simp) ?_
   refine AllReadyH.cons rfl (fun K hK => ?_) AllReadyH.nil
   rw [if_pos (by rfl)]
   go_simp
   refine (noughts_any bd.size _ hz).mono ?_
   rintro e w2 ⟨rfl, hb⟩
   go_wp2_with fail
   have J2 := box (heap_calm hb J1.out)
   have C2 := box (C1.out.trans ((show Calm w1 _ by (repeat' (first | (with_reducible exact Calm.refl _) | (with_reducible assumption) | (with_reducible refine Calm.drew ?_) | (with_reducible refine Calm.alloc ?_ _) | (with_reducible refine Calm.trans ?_ (by assumption))))).trans hb))
   refine hK.out _ _ ⟨cell_of J2.out 0, cell_of J2.out 1, cell_of J2.out 2, cell_of J2.out 3, cell_of J2.out 4, cell_of J2.out 5, cell_of J2.out 6, cell_of J2.out 7, cell_of J2.out 8, cell_of J2.out 9⟩ (fun hHeld2 => ?_)
   clear hK K hb
   try simp only [List.getElem_toArray, List.getElem_cons_succ, List.getElem_cons_zero, Act.put, List.setIfInBounds_toArray, List.set_cons_zero, List.set_cons_succ]
   ((refine' wpAnyH_take (i := 11) (v := _) rfl (by kernel_rfl) (by kernel_rfl) (by kernel_rfl) (fun _ _ _ h => h) (Or.inl ⟨by rfl, ?y258⟩) ‹_› ?r258; (case y258 => (intro w hSw; (try dsimp only at hSw); go_simp <;> with_reducible rfl))); (refine' wpAnyH_take (i := 12) (v := _) rfl (by kernel_rfl) (by kernel_rfl) (by kernel_rfl) (fun _ _ _ h => h) (Or.inl ⟨by rfl, ?y259⟩) ‹_› ?r259; (case y259 => (intro w hSw; (try dsimp only at hSw); go_simp <;> with_reducible rfl))); (refine' wpAnyH_take (i := 13) (v := _) rfl (by kernel_rfl) (by kernel_rfl) (by kernel_rfl) (fun _ _ _ h => h) (Or.inl ⟨by rfl, ?y260⟩) ‹_› ?r260; (case y260 => (intro w hSw; (try dsimp only at hSw); go_simp <;> with_reducible rfl))); (refine' wpAnyH_take (i := 14) (v := _) rfl (by kernel_rfl) (by kernel_rfl) (by kernel_rfl) (fun _ _ _ h => h) (Or.inl ⟨by rfl, ?y261⟩) ‹_› ?r261; (case y261 => (intro w hSw; (try dsimp only at hSw); go_simp <;> with_reducible rfl))); (refine' wpAnyH_take (i := 15) (v := _) rfl (by kernel_rfl) (by kernel_rfl) (by kernel_rfl) (fun _ _ _ h => h) (Or.inl ⟨by rfl, ?y262⟩) ‹_› ?r262; (case y262 => (intro w hSw; (try dsimp only at hSw); go_simp <;> with_reducible rfl)); simp only [List.getElem_toArray, List.getElem_cons_succ, List.getElem_cons_zero, Act.put, List.setIfInBounds_toArray, List.set_cons_zero, List.set_cons_succ]); (refine' wpAnyH_take (i := 16) (v := _) rfl (by kernel_rfl) (by kernel_rfl) (by kernel_rfl) (fun _ _ _ h => h) (Or.inl ⟨by rfl, ?y263⟩) ‹_› ?r263; (case y263 => (intro w hSw; (try dsimp only at hSw); go_simp <;> with_reducible rfl))); (refine' wpAnyH_take (i := 17) (v := _) rfl (by kernel_rfl) (by kernel_rfl) (by kernel_rfl) (fun _ _ _ h => h) (Or.inl ⟨by rfl, ?y264⟩) ‹_› ?r264; (case y264 => (intro w hSw; (try dsimp only at hSw); go_simp <;> with_reducible rfl)); simp only [List.getElem_toArray, List.getElem_cons_succ, List.getElem_cons_zero, Act.put, List.setIfInBounds_toArray, List.set_cons_zero, List.set_cons_succ]))
   refine wpAnyH_ready (rs := [18]) (by kernel_rfl) (by simp) ?_
   refine AllReadyH.cons rfl (fun K hK => ?_) AllReadyH.nil
   rw [if_pos (by rfl)]
   go_simp
   refine (hsam.out _ C2.out).mono ?_
   rintro e w3 ⟨rfl, hb⟩
   go_wp2_with fail
   have J3 := box (heap_calm hb J2.out)
   have C3 := box (C2.out.trans hb)
   refine hK.out _ _ ⟨cell_of J3.out 0, cell_of J3.out 1, cell_of J3.out 2, cell_of J3.out 3, cell_of J3.out 4, cell_of J3.out 5, cell_of J3.out 6, cell_of J3.out 7, cell_of J3.out 8, cell_of J3.out 9⟩ (fun hHeld3 => ?_)
   clear hK K hb
   try simp only [List.getElem_toArray, List.getElem_cons_succ, List.getElem_cons_zero, Act.put, List.setIfInBounds_toArray, List.set_cons_zero, List.set_cons_succ]
   ((refine' wpAnyH_take (i := 19) (v := _) rfl (by kernel_rfl) (by kernel_rfl) (by kernel_rfl) (fun _ _ _ h => h) (Or.inl ⟨by rfl, ?y265⟩) ‹_› ?r265; (case y265 => (intro w hSw; (try dsimp only at hSw); go_simp <;> with_reducible rfl))); (refine' wpAnyH_take (i := 20) (v := _) rfl (by kernel_rfl) (by kernel_rfl) (by kernel_rfl) (fun _ _ _ h => h) (Or.inl ⟨by rfl, ?y266⟩) ‹_› ?r266; (case y266 => (intro w hSw; (try dsimp only at hSw); go_simp <;> with_reducible rfl)); simp only [List.getElem_toArray, List.getElem_cons_succ, List.getElem_cons_zero, Act.put, List.setIfInBounds_toArray, List.set_cons_zero, List.set_cons_succ]))
   refine wpAnyH_done (by kernel_rfl) ?_ _
   go_wp2_with fail
   go_ret
   exact ⟨rfl, C3.out⟩
  ·have hze : (bd.toList == (zerosB bd.size).toList) = false := beq_eq_false_iff_ne.2 (fun e => hzz (ba_ext (by rw [← Lib.toList_data, ← Lib.toList_data]; exact e)))
   go_wp2_with fail
   refine wp_region_held_drew (S := fun w' => w'.cell? ⟨w.heap.size, 0, none⟩ = some (.int .i64 0) ∧ w'.cell? ⟨w.heap.size, 1, none⟩ = some (.int .i64 q) ∧ w'.cell? ⟨w.heap.size, 2, none⟩ = some (.int .i64 du) ∧ w'.cell? ⟨w.heap.size, 3, none⟩ = some (.int .i64 rt) ∧ w'.cell? ⟨w.heap.size, 4, none⟩ = some (.int .i64 rf) ∧ w'.cell? ⟨w.heap.size, 5, none⟩ = some (.int .i64 bn) ∧ w'.cell? ⟨w.heap.size, 6, none⟩ = some (.string tp) ∧ w'.cell? ⟨w.heap.size, 7, none⟩ = some (.string tg) ∧ w'.cell? ⟨w.heap.size, 8, none⟩ = some (.string bd) ∧ w'.cell? ⟨w.heap.size, 9, none⟩ = some (.slice ka ks.length kcap)) (by kernel_rfl) (by go_keep) (fun hHeld => ?_)
   ((refine' wpAnyH_take (i := 0) (v := _) rfl (by kernel_rfl) (by kernel_rfl) (by kernel_rfl) (fun _ _ _ h => h) (Or.inl ⟨by rfl, ?y267⟩) ‹_› ?r267; (case y267 => (intro w hSw; (try dsimp only at hSw); go_simp <;> with_reducible rfl))); (refine' wpAnyH_take (i := 1) (v := _) rfl (by kernel_rfl) (by kernel_rfl) (by kernel_rfl) (fun _ _ _ h => h) (Or.inl ⟨by rfl, ?y268⟩) ‹_› ?r268; (case y268 => (intro w hSw; (try dsimp only at hSw); go_simp <;> with_reducible rfl))); (refine' wpAnyH_take (i := 2) (v := _) rfl (by kernel_rfl) (by kernel_rfl) (by kernel_rfl) (fun _ _ _ h => h) (Or.inl ⟨by rfl, ?y269⟩) ‹_› ?r269; (case y269 => (intro w hSw; (try dsimp only at hSw); go_simp <;> with_reducible rfl))); (refine' wpAnyH_take (i := 3) (v := _) rfl (by kernel_rfl) (by kernel_rfl) (by kernel_rfl) (fun _ _ _ h => h) (Or.inl ⟨by rfl, ?y270⟩) ‹_› ?r270; (case y270 => (intro w hSw; (try dsimp only at hSw); go_simp <;> with_reducible rfl))); (refine' wpAnyH_take (i := 4) (v := _) rfl (by kernel_rfl) (by kernel_rfl) (by kernel_rfl) (fun _ _ _ h => h) (Or.inl ⟨by rfl, ?y271⟩) ‹_› ?r271; (case y271 => (intro w hSw; (try dsimp only at hSw); go_simp <;> with_reducible rfl)); simp only [List.getElem_toArray, List.getElem_cons_succ, List.getElem_cons_zero, Act.put, List.setIfInBounds_toArray, List.set_cons_zero, List.set_cons_succ]); (refine' wpAnyH_take (i := 5) (v := _) rfl (by kernel_rfl) (by kernel_rfl) (by kernel_rfl) (fun _ _ _ h => h) (Or.inl ⟨by rfl, ?y272⟩) ‹_› ?r272; (case y272 => (intro w hSw; (try dsimp only at hSw); go_simp <;> with_reducible rfl))); (refine' wpAnyH_take (i := 6) (v := _) rfl (by kernel_rfl) (by kernel_rfl) (by kernel_rfl) (fun _ _ _ h => h) (Or.inl ⟨by rfl, ?y273⟩) ‹_› ?r273; (case y273 => (intro w hSw; (try dsimp only at hSw); go_simp <;> with_reducible rfl))); (refine' wpAnyH_take (i := 7) (v := _) rfl (by kernel_rfl) (by kernel_rfl) (by kernel_rfl) (fun _ _ _ h => h) (Or.inl ⟨by rfl, ?y274⟩) ‹_› ?r274; (case y274 => (intro w hSw; (try dsimp only at hSw); go_simp <;> with_reducible rfl))); (refine' wpAnyH_take (i := 8) (v := _) rfl (by kernel_rfl) (by kernel_rfl) (by kernel_rfl) (fun _ _ _ h => h) (Or.inl ⟨by rfl, ?y275⟩) ‹_› ?r275; (case y275 => (intro w hSw; (try dsimp only at hSw); go_simp <;> with_reducible rfl))); (refine' wpAnyH_take (i := 9) (v := _) rfl (by kernel_rfl) (by kernel_rfl) (by kernel_rfl) (fun _ _ _ h => h) (Or.inl ⟨by rfl, ?y276⟩) ‹_› ?r276; (case y276 => (intro w hSw; (try dsimp only at hSw); go_simp <;> with_reducible rfl)); simp only [List.getElem_toArray, List.getElem_cons_succ, List.getElem_cons_zero, Act.put, List.setIfInBounds_toArray, List.set_cons_zero, List.set_cons_succ]))
   refine wpAnyH_ready (rs := [10]) (by kernel_rfl) (by simp) ?_
   refine AllReadyH.cons rfl (fun K hK => ?_) AllReadyH.nil
   rw [if_pos (by rfl)]
   go_simp
   refine (noughts_any bd.size _ hz).mono ?_
   rintro e w2 ⟨rfl, hb⟩
   go_wp2_with fail
   have J2 := box (heap_calm hb J1.out)
   have C2 := box (C1.out.trans ((show Calm w1 _ by (repeat' (first | (with_reducible exact Calm.refl _) | (with_reducible assumption) | (with_reducible refine Calm.drew ?_) | (with_reducible refine Calm.alloc ?_ _) | (with_reducible refine Calm.trans ?_ (by assumption))))).trans hb))
   refine hK.out _ _ ⟨cell_of J2.out 0, cell_of J2.out 1, cell_of J2.out 2, cell_of J2.out 3, cell_of J2.out 4, cell_of J2.out 5, cell_of J2.out 6, cell_of J2.out 7, cell_of J2.out 8, cell_of J2.out 9⟩ (fun hHeld2 => ?_)
   clear hK K hb
   try simp only [List.getElem_toArray, List.getElem_cons_succ, List.getElem_cons_zero, Act.put, List.setIfInBounds_toArray, List.set_cons_zero, List.set_cons_succ]
   ((refine' wpAnyH_take (i := 11) (v := _) rfl (by kernel_rfl) (by kernel_rfl) (by kernel_rfl) (fun _ _ _ h => h) (Or.inl ⟨by rfl, ?y277⟩) ‹_› ?r277; (case y277 => (intro w hSw; (try dsimp only at hSw); go_simp <;> with_reducible rfl))); (refine' wpAnyH_take (i := 12) (v := _) rfl (by kernel_rfl) (by kernel_rfl) (by kernel_rfl) (fun _ _ _ h => h) (Or.inl ⟨by rfl, ?y278⟩) ‹_› ?r278; (case y278 => (intro w hSw; (try dsimp only at hSw); go_simp <;> with_reducible rfl))); (refine' wpAnyH_take (i := 13) (v := _) rfl (by kernel_rfl) (by kernel_rfl) (by kernel_rfl) (fun _ _ _ h => h) (Or.inl ⟨by rfl, ?y279⟩) ‹_› ?r279; (case y279 => (intro w hSw; (try dsimp only at hSw); go_simp <;> with_reducible rfl)); simp only [List.getElem_toArray, List.getElem_cons_succ, List.getElem_cons_zero, Act.put, List.setIfInBounds_toArray, List.set_cons_zero, List.set_cons_succ]))
   ((refine' wpAnyH_take (i := 14) (v := _) rfl (by kernel_rfl) (by kernel_rfl) (by kernel_rfl) (fun _ _ _ h => h) (Or.inr ⟨by rfl, rfl⟩) ‹_› ?r280); (refine' wpAnyH_take (i := 15) (v := _) rfl (by kernel_rfl) (by kernel_rfl) (by kernel_rfl) (fun _ _ _ h => h) (Or.inr ⟨by rfl, rfl⟩) ‹_› ?r281); (refine' wpAnyH_take (i := 16) (v := _) rfl (by kernel_rfl) (by kernel_rfl) (by kernel_rfl) (fun _ _ _ h => h) (Or.inr ⟨by rfl, rfl⟩) ‹_› ?r282); (refine' wpAnyH_take (i := 17) (v := _) rfl (by kernel_rfl) (by kernel_rfl) (by kernel_rfl) (fun _ _ _ h => h) (Or.inr ⟨by rfl, rfl⟩) ‹_› ?r283); (refine' wpAnyH_take (i := 18) (v := _) rfl (by kernel_rfl) (by kernel_rfl) (by kernel_rfl) (fun _ _ _ h => h) (Or.inr ⟨by rfl, rfl⟩) ‹_› ?r284; simp only [List.getElem_toArray, List.getElem_cons_succ, List.getElem_cons_zero, Act.put, List.setIfInBounds_toArray, List.set_cons_zero, List.set_cons_succ]))
   ((refine' wpAnyH_take (i := 19) (v := _) rfl (by kernel_rfl) (by kernel_rfl) (by kernel_rfl) (fun _ _ _ h => h) (Or.inl ⟨by rfl, ?y285⟩) ‹_› ?r285; (case y285 => (intro w hSw; (try dsimp only at hSw); go_simp <;> with_reducible rfl))); (refine' wpAnyH_take (i := 20) (v := _) rfl (by kernel_rfl) (by kernel_rfl) (by kernel_rfl) (fun _ _ _ h => h) (Or.inl ⟨by rfl, ?y286⟩) ‹_› ?r286; (case y286 => (intro w hSw; (try dsimp only at hSw); go_simp <;> with_reducible rfl)); simp only [List.getElem_toArray, List.getElem_cons_succ, List.getElem_cons_zero, Act.put, List.setIfInBounds_toArray, List.set_cons_zero, List.set_cons_succ]))
   refine wpAnyH_done (by kernel_rfl) ?_ _
   go_wp2_with fail
   go_ret
   exact ⟨ret_bool (not_true_of Hr (fun h => hzz ((right0 Hnb.out).1 h).2.1)), C2.out⟩
 ·have e0 : (kd == 0) = false := beq_eq_false_iff_ne.2 h0
  go_wp2_with fail
  go_ret
  exact ⟨ret_bool (not_true_of Hr (fun h => by
   obtain ⟨_, ⟨h, _⟩ | ⟨h, _⟩ | ⟨_, ⟨h, _⟩ | ⟨h, _⟩⟩⟩ := h
   all_goals simp only at h; omega)), C1.out⟩
end Go.Proofs.YtjpokaifbnkmhaaGreatDoor.rc

namespace Go.Proofs.YtjpokaifbnkmhaaGreatDoor.oc
open Go.ChangeShapes Go.WideShapes Go.ChangeAt Go.RowKit
set_option maxHeartbeats 4000000 in
theorem Text_any (v : Value) (l : List ByteArray) (w : World) (h : StrsAt w v l) (hl : l.length ≤ 1000000) (hi : ∀ s ∈ l, s.size ≤ maxLen) :
  Calls Tryz.prog 208 #[v] w fun e w' => e = .returned (.tuple #[.string (textsB l).1, .int .i64 (textsB l).2]) ∧ Calm w w' := by
 obtain ⟨a, cap, rfl, hcells⟩ := h.uni
 have H := box hcells
 have Hi := box hi
 have hr := box (show textsB l = if l.all shortB then (⟨(textsL l).toArray⟩, 0) else (⟨#[]⟩, 6) from rfl)
 clear h hi hcells
 go_enter Tryz.func208, Tryz.ntmps208
 go_wp2_with fail
 go_loopw [9] (fun i wr => ∃ k : Nat, k ≤ l.length ∧ i = .int .i64 k ∧ (l.take k).all shortB = true ∧ Lib.IsBuilder BT 5 w.heap.size w.heap.size (Lib.byteCells (textsL (l.take k))) wr ∧ Calm w wr) (fun i _ => l.length - (intOf i).toNat)
 case atStart =>
  exact ⟨0, Nat.zero_le _, rfl, rfl, .inl ⟨Nat.le_refl _, .slice none 0 0, heap_new w _, World.ownsRow_nil _ _ _ _, by simp [Value.ownBlock]⟩, (Calm.refl w).alloc _⟩
 case round =>
  obtain ⟨k, hk, rfl, hall, hB, hC⟩ := hrel
  have Hall := box hall
  have HB := box hB
  have HC := box hC
  clear hall hB hC
  by_cases hlt : k < l.length
  ·obtain ⟨b, off, rfl, hb, hcell0⟩ := H.out k hlt
   have hcell := (HC.out.cell (p := ⟨b, off + k, none⟩) hb).trans hcell0
   have hblt := Nat.lt_of_lt_of_le hb HC.out.size
   rw [List.getD_eq_getElem?_getD, List.getElem?_eq_getElem hlt] at hcell
   simp only [Option.getD_some] at hcell
   have hsz := Hi.out l[k] (List.getElem_mem hlt)
   have hsn := box (textsL_snoc l k hlt)
   have has := box (show (l.take (k + 1)).all shortB = ((l.take k).all shortB && shortB l[k]) by rw [List.take_succ_eq_append_getElem hlt, List.all_append]; simp)
   have hno := box (show shortB l[k] = false → textsB l = (⟨#[]⟩, 6) from fun hf => by
    rw [hr.out, if_neg]
    rw [List.all_eq_true]
    intro hh
    have := hh l[k] (List.getElem_mem hlt)
    rw [hf] at this
    cases this)
   have hlen := box (textsL_length (l.take k) Hall.out)
   obtain ⟨s, hs⟩ : ∃ s, l[k] = s := ⟨_, rfl⟩
   rw [hs] at hcell hsn has hno hsz
   unfold maxLen at hsz
   clear hs hcell0
   by_cases hbig : 65535 < s.size
   ·have hno := box (hno.out (decide_eq_false (by omega)))
    go_wp2_with fail
    go_ret2
    exact ⟨ret_tup2 (by rw [hno.out]; rfl) (by rw [hno.out]; rfl), HC.out⟩
   ·have hsh : shortB s = true := decide_eq_true (by omega)
    have hcat := box (show (⟨(low 2 s.size).toArray⟩ : ByteArray) ++ s = ⟨(textL s).toArray⟩ from ba_ext (by rw [append_toList]; rfl))
    have z2 : (⟨(low 2 s.size).toArray⟩ : ByteArray).size = 2 := low_size 2 s.size
    have hput := box (fun W => put_any 2 s.size W (by decide) (by omega))
    obtain ⟨u, hu⟩ : ∃ u : ByteArray, ⟨(low 2 s.size).toArray⟩ = u := ⟨_, rfl⟩
    rw [hu] at hcat z2 hput
    have has := box (show (l.take (k + 1)).all shortB = true by rw [has.out, Hall.out, hsh]; rfl)
    clear hu hsh
    go_wp2_with fail
    refine (hput.out _).mono ?_
    rintro e w2 ⟨rfl, hc2⟩
    have HB2 := box (HB.out.calm' hc2)
    have HC2 := box (HC.out.trans hc2)
    clear hc2
    go_wp2_with fail
    rw [hcat.out]
    have hroom : (Lib.byteCells (textsL (l.take k))).length + (⟨(textL s).toArray⟩ : ByteArray).size ≤ 140737488355328 := by
     have h1 := hlen.out
     rw [List.length_take] at h1
     have h3 : min k l.length * 65537 ≤ 1000000 * 65537 := Nat.mul_le_mul (by omega) (by omega)
     have h4 : (⟨(textL s).toArray⟩ : ByteArray).size = 2 + s.size := by show (textL s).toArray.size = _; simp [textL_length]
     rw [h4, Lib.byteCells_length]
     omega
    refine (WriteString_any w.heap.size w.heap.size _ ⟨(textL s).toArray⟩ _ HB2.out hroom (by exact HC2.out.size)).mono ?_
    rintro e w3 ⟨rfl, hb3, hc3⟩
    have HB3 := box hb3
    have HC3 := box (Below.trans HC2.out hc3)
    clear hb3 hc3
    go_wp2_with fail
    go_roundw
    case rel =>
     refine ⟨k + 1, by omega, by go_num, has.out, ?_, HC3.out⟩
     rw [hsn.out, Lib.byteCells_append]
     exact .inr HB3.out
    case measure => simp [intOf]; omega
  ·obtain rfl : k = l.length := by omega
   have hr := box (show textsB l = (⟨(textsL l).toArray⟩, 0) by
    have := Hall.out
    rw [List.take_length] at this
    rw [hr.out, if_pos this])
   have HB := box (show Lib.IsBuilder BT 5 w.heap.size w.heap.size (Lib.byteCells (textsL l)) wr by have := HB.out; rw [List.take_length] at this; exact this)
   go_wp2_with fail
   refine (Tryz.Builder_String_any w.heap.size w.heap.size _ wr HB.out (by exact HC.out.size)).mono ?_
   rintro e w2 ⟨rfl, hc2⟩
   have HC2 := box (Below.trans HC.out hc2)
   clear hc2
   go_wp2_with fail
   go_ret2
   exact ⟨ret_tup2 (by rw [hr.out]; rfl) (by rw [hr.out]; rfl), HC2.out⟩
theorem OList_any (v : Value) (l : List ByteArray) (w : World) (h : StrsAt w v l) (hl : l.length ≤ 1000000) (hi : ∀ s ∈ l, s.size ≤ maxLen) :
  Calls Tryz.prog 209 #[v] w fun e w' => e = .returned (.tuple #[.string (listB l).1, .int .i64 (listB l).2]) ∧ Calm w w' := by
 have ht := box (Text_any v l w h hl hi)
 obtain ⟨a, cap, rfl, _⟩ := h.uni
 clear h hi
 by_cases h255 : 255 < l.length
 ·have hr := box (show listB l = (⟨#[]⟩, 6) by unfold listB; rw [if_pos h255])
  rw [hr.out]
  go_enter Tryz.func209, Tryz.ntmps209
  go_wp2_with fail
  go_ret2
  exact ⟨rfl, Calm.refl _⟩
 ·cases hsh : l.all shortB
  ·have hr := box (show listB l = (⟨#[]⟩, 6) by unfold listB; rw [if_neg h255, hsh]; rfl)
   have ht2 := box (show textsB l = (⟨#[]⟩, 6) by unfold textsB; rw [hsh]; rfl)
   rw [hr.out]
   rw [ht2.out] at ht
   go_enter Tryz.func209, Tryz.ntmps209
   go_wp2_with fail
   refine ht.out.mono ?_
   rintro e w2 ⟨rfl, hc2⟩
   have C2 := box hc2
   clear hc2
   go_wp2_with fail
   go_ret2
   exact ⟨rfl, C2.out⟩
  ·have hr := box (show listB l = (⟨(low 1 l.length ++ textsL l).toArray⟩, 0) by unfold listB; rw [if_neg h255, hsh]; rfl)
   have ht2 := box (show textsB l = (⟨(textsL l).toArray⟩, 0) by unfold textsB; rw [hsh]; rfl)
   have hlen := textsL_length l hsh
   have z1 : (⟨(textsL l).toArray⟩ : ByteArray).size ≤ 16711935 := by show (textsL l).toArray.size ≤ _; simp only [List.size_toArray]; have : l.length * 65537 ≤ 255 * 65537 := Nat.mul_le_mul (by omega) (by omega); omega
   have z2 : (⟨(low 1 l.length).toArray⟩ : ByteArray).size = 1 := low_size 1 l.length
   have hcat := box (show (⟨(low 1 l.length).toArray⟩ : ByteArray) ++ ⟨(textsL l).toArray⟩ = ⟨(low 1 l.length ++ textsL l).toArray⟩ from ba_ext (by rw [append_toList]))
   have hput := box (fun W => put_any 1 l.length W (by decide) (by omega))
   obtain ⟨u, hu⟩ : ∃ u : ByteArray, ⟨(low 1 l.length).toArray⟩ = u := ⟨_, rfl⟩
   obtain ⟨t, htt⟩ : ∃ t : ByteArray, ⟨(textsL l).toArray⟩ = t := ⟨_, rfl⟩
   rw [hr.out]
   rw [ht2.out] at ht
   rw [hu] at hcat z2 hput
   rw [htt] at hcat ht z1
   rw [← hcat.out]
   clear hu htt hlen hsh hcat hr ht2
   go_enter Tryz.func209, Tryz.ntmps209
   go_wp2_with fail
   refine ht.out.mono ?_
   rintro e w2 ⟨rfl, hc2⟩
   have C2 := box hc2
   clear hc2
   go_wp2_with fail
   refine (hput.out _).mono ?_
   rintro e w3 ⟨rfl, hc3⟩
   have C3 := box (C2.out.trans hc3)
   clear hc3
   go_wp2_with fail
   go_ret2
   exact ⟨rfl, C3.out⟩
end Go.Proofs.YtjpokaifbnkmhaaGreatDoor.oc

namespace Go.Proofs.YtjpokaifbnkmhaaGreatDoor.rc
open Go.ChangeShapes Go.WideShapes Go.ChangeAt Go.RowKit Go.Shelf
open nm vs oc
theorem fits_nat (n x : Nat) (h : x < 256 ^ n) : fitsN n (x : Int) = true := by
 unfold fitsN
 rw [decide_eq_true (by omega), decide_eq_true (by have := Int.ofNat_lt.2 h; rwa [Int.natCast_pow] at this)]; rfl
theorem num1 (n x : Nat) (h1 : 1 ≤ n) (h7 : n ≤ 7) (hx : x < 256 ^ n) (W : World) (h63 : x ≤ 9223372036854775807) :
  Calls Tryz.prog 152 #[.int .i64 n, .slice (some ⟨W.heap.size, 0, none⟩) 1 1] (W.alloc (.cells #[.int .i64 x] 3)) fun e w' => e = .returned (.tuple #[.string ⟨(low n x).toArray⟩, .int .i64 0]) ∧ Calm W w' := by
 have hn := heap_new W (.cells #[.int .i64 x] 3)
 have h := Num_any n (some ⟨W.heap.size, 0, none⟩) 1 [(x : Int)] (W.alloc (.cells #[.int .i64 x] 3)) (fun k hk => ⟨W.heap.size, 0, rfl, heap_lt hn, by
  have : k = 0 := by simpa using hk
  subst this
  exact cell_of hn 0⟩) (by simp) (fun z hz => by rw [List.mem_singleton] at hz; subst hz; omega)
 have hb : oc.numB n [(x : Int)] = (⟨(low n x).toArray⟩, 0) := by
  unfold oc.numB
  rw [if_neg (by omega), if_pos (by simp only [List.all_cons, List.all_nil, Bool.and_true, Int.toNat_natCast]; exact fits_nat n x hx)]
  simp [lowN]
 rw [hb] at h
 exact h.mono fun e w' ⟨h1, h2⟩ => ⟨h1, ((Calm.refl W).alloc _).trans h2⟩
theorem num3 (n x y z : Nat) (h1 : 1 ≤ n) (h7 : n ≤ 7) (hx : x < 256 ^ n) (hy : y < 256 ^ n) (hz : z < 256 ^ n) (W : World) (h63 : x ≤ 9223372036854775807 ∧ y ≤ 9223372036854775807 ∧ z ≤ 9223372036854775807) :
  Calls Tryz.prog 152 #[.int .i64 n, .slice (some ⟨W.heap.size, 0, none⟩) 3 3] (W.alloc (.cells #[.int .i64 x, .int .i64 y, .int .i64 z] 3)) fun e w' => e = .returned (.tuple #[.string ⟨(low n x ++ (low n y ++ low n z)).toArray⟩, .int .i64 0]) ∧ Calm W w' := by
 have hn := heap_new W (.cells #[.int .i64 x, .int .i64 y, .int .i64 z] 3)
 have h := Num_any n (some ⟨W.heap.size, 0, none⟩) 3 [(x : Int), (y : Int), (z : Int)] (W.alloc (.cells #[.int .i64 x, .int .i64 y, .int .i64 z] 3)) (fun k hk => ⟨W.heap.size, 0, rfl, heap_lt hn, by
  rw [Nat.zero_add, cell_of hn]
  match k, hk with
  | 0, _ => rfl
  | 1, _ => rfl
  | 2, _ => rfl⟩) (by simp) (fun v hv => by simp only [List.mem_cons, List.not_mem_nil, or_false] at hv; rcases hv with rfl | rfl | rfl <;> omega)
 have hb : oc.numB n [(x : Int), (y : Int), (z : Int)] = (⟨(low n x ++ (low n y ++ low n z)).toArray⟩, 0) := by
  unfold oc.numB
  rw [if_neg (by omega), if_pos (by simp only [List.all_cons, List.all_nil, Bool.and_true, Int.toNat_natCast, Bool.and_eq_true]; exact ⟨fits_nat n x hx, fits_nat n y hy, fits_nat n z hz⟩)]
  simp [lowN]
 rw [hb] at h
 exact h.mono fun e w' ⟨h1, h2⟩ => ⟨h1, ((Calm.refl W).alloc _).trans h2⟩
set_option maxHeartbeats 2000000 in
theorem Fill_any (n : Int) (w : World) : Calls Tryz.prog 127 #[.int .i64 n] w fun e w' => e = .returned (.tuple (if 3 ≤ n ∧ n ≤ 1024 then #[.string (fillB n.toNat), .bool true] else #[.string ⟨#[]⟩, .bool false])) ∧ Calm w w' := by
 by_cases h : 3 ≤ n ∧ n ≤ 1024
 ·rw [if_pos h]
  obtain ⟨h3, h4⟩ := h
  obtain ⟨k, rfl⟩ : ∃ k : Nat, n = k := ⟨n.toNat, by omega⟩
  have hnum := box (num1 2 k (by decide) (by decide) (by show k < 65536; omega) w (by omega))
  have hno := box (fun W => noughts_any (k - 3) W (by omega))
  rw [show (((k - 3 : Nat) : Int)) = (k : Int) - 3 by omega] at hno
  have z1 : (⟨(low 2 k).toArray⟩ : ByteArray).size = 2 := low_size 2 k
  have z2 := zerosB_size (k - 3)
  have hcat := box (show (⟨#[90]⟩ : ByteArray) ++ ⟨(low 2 k).toArray⟩ ++ zerosB (k - 3) = fillB k from ba_ext (by rw [append_toList, append_toList]; unfold fillB zerosB; simp))
  rw [Int.toNat_natCast]
  obtain ⟨u, hu⟩ : ∃ u : ByteArray, ⟨(low 2 k).toArray⟩ = u := ⟨_, rfl⟩
  obtain ⟨t, ht⟩ : ∃ t : ByteArray, zerosB (k - 3) = t := ⟨_, rfl⟩
  rw [hu] at hnum z1 hcat
  rw [ht] at hno z2 hcat
  rw [← hcat.out]
  clear hu ht hcat
  go_enter Tryz.func127, Tryz.ntmps127
  go_wp2_with fail
  refine hnum.out.mono ?_
  rintro e w2 ⟨rfl, hc2⟩
  have C2 := box hc2
  clear hc2
  go_wp2_with fail
  refine (hno.out _).mono ?_
  rintro e w3 ⟨rfl, hc3⟩
  have C3 := box (C2.out.trans hc3)
  clear hc3
  go_wp2_with fail
  go_ret2
  exact ⟨rfl, C3.out⟩
 ·rw [if_neg h]
  have h' : n < 3 ∨ (3 ≤ n ∧ 1024 < n) := by omega
  clear h
  rcases h' with h1 | ⟨h1, h2⟩
  all_goals
   go_enter Tryz.func127, Tryz.ntmps127
   go_wp2_with fail
   go_ret2
   exact ⟨rfl, Calm.refl _⟩
set_option maxHeartbeats 4000000 in
theorem inside_any (m : MsgS) (kv : Value) (w : World) (hk : StrsAt w kv m.keys) (F : Fits m) :
  Calls Tryz.prog 172 #[.agg (msgA m kv)] w fun e w' => e = .returned (.string ⟨(insideL m).toArray⟩) ∧ Calm w w' := by
 have hks := F.key
 have hkl := F.keys
 have hlist := box (fun W (hW : Calm w W) => OList_any kv m.keys W (hk.calm hW) (by omega) (fun s hs => by have := hks s hs; unfold maxLen; omega))
 have hlb : listB m.keys = (⟨(low 1 m.keys.length ++ textsL m.keys).toArray⟩, 0) := by
  unfold listB
  rw [if_neg (by omega), if_pos (List.all_eq_true.2 fun s hs => decide_eq_true (by have := hks s hs; omega))]
 rw [hlb] at hlist
 have hll := textsL_le m.keys hks
 obtain ⟨kd, q, du, rt, rf, bn, tp, tg, bd, ks⟩ := m
 obtain ⟨f1, f2, f3, f4, f5, f6, f7, f8, f9, f10, f11⟩ := F
 simp only at *
 obtain ⟨kd, rfl⟩ : ∃ k : Nat, kd = k := ⟨kd.toNat, by omega⟩
 obtain ⟨q, rfl⟩ : ∃ k : Nat, q = k := ⟨q.toNat, by omega⟩
 obtain ⟨rt, rfl⟩ : ∃ k : Nat, rt = k := ⟨rt.toNat, by omega⟩
 obtain ⟨bn, rfl⟩ : ∃ k : Nat, bn = k := ⟨bn.toNat, by omega⟩
 obtain ⟨du, rfl⟩ : ∃ k : Nat, du = k := ⟨du.toNat, by omega⟩
 obtain ⟨rf, rfl⟩ : ∃ k : Nat, rf = k := ⟨rf.toNat, by omega⟩
 obtain ⟨ka, kcap, rfl, _⟩ := hk.uni
 obtain ⟨W1, hW1⟩ : ∃ W1, w.alloc (.cells (msgA ⟨kd, q, du, rt, rf, bn, tp, tg, bd, ks⟩ (.slice ka ks.length kcap)) 62) = W1 := ⟨_, rfl⟩
 have Hn := box (show W1.heap[w.heap.size]? = some (.cells (msgA ⟨kd, q, du, rt, rf, bn, tp, tg, bd, ks⟩ (.slice ka ks.length kcap)) 62 (0, 0)) by rw [← hW1]; exact heap_new w _)
 have H0 := box (show Calm w W1 by rw [← hW1]; exact (Calm.refl w).alloc _)
 have hn1 := box (num3 1 kd q rt (by decide) (by decide) (by show _ < 256; omega) (by show _ < 256; omega) (by show _ < 256; omega) W1 (by omega))
 have hn2 := box (fun W => num3 6 bn du rf (by decide) (by decide) (by show _ < 281474976710656; omega) (by show _ < 281474976710656; omega) (by show _ < 281474976710656; omega) W (by omega))
 have htx := box (fun W : World => Text_any (.slice (some ⟨W.heap.size, 0, none⟩) 3 3) [tp, tg, bd] (W.alloc (.cells #[.string tp, .string tg, .string bd] 9)) (.inr ⟨W.heap.size, 0, 3, rfl, fun k hk => by
  rw [Nat.zero_add, cell_of (heap_new W _)]
  match k, hk with
  | 0, _ => rfl
  | 1, _ => rfl
  | 2, _ => rfl⟩) (by simp) (fun s hs => by simp only [List.mem_cons, List.not_mem_nil, or_false] at hs; unfold maxLen; rcases hs with rfl | rfl | rfl <;> omega))
 have htb : textsB [tp, tg, bd] = (⟨(textsL [tp, tg, bd]).toArray⟩, 0) := by
  unfold textsB
  rw [if_pos (by simp; omega)]
 rw [htb] at htx
 have z1 : (⟨(low 1 kd ++ (low 1 q ++ low 1 rt)).toArray⟩ : ByteArray).size = 3 := by show (_ : List UInt8).toArray.size = _; simp [low_length]
 have z2 : (⟨(low 6 bn ++ (low 6 du ++ low 6 rf)).toArray⟩ : ByteArray).size = 18 := by show (_ : List UInt8).toArray.size = _; simp [low_length]
 have z3 : (⟨(textsL [tp, tg, bd]).toArray⟩ : ByteArray).size ≤ 300 := by show (_ : List UInt8).toArray.size ≤ _; simp [textsL, textL_length]; omega
 have z4 : (⟨(low 1 ks.length ++ textsL ks).toArray⟩ : ByteArray).size ≤ 100 := by show (_ : List UInt8).toArray.size ≤ _; simp [low_length]; omega
 have hcat := box (show (⟨(low 1 kd ++ (low 1 q ++ low 1 rt)).toArray⟩ : ByteArray) ++ ⟨(low 6 bn ++ (low 6 du ++ low 6 rf)).toArray⟩ ++ ⟨(textsL [tp, tg, bd]).toArray⟩ ++ ⟨(low 1 ks.length ++ textsL ks).toArray⟩ = ⟨(insideL ⟨kd, q, du, rt, rf, bn, tp, tg, bd, ks⟩).toArray⟩ from ba_ext (by rw [append_toList, append_toList, append_toList]; simp [insideL, textsL]))
 obtain ⟨a, ha⟩ : ∃ a : ByteArray, ⟨(low 1 kd ++ (low 1 q ++ low 1 rt)).toArray⟩ = a := ⟨_, rfl⟩
 obtain ⟨b, hb⟩ : ∃ a : ByteArray, ⟨(low 6 bn ++ (low 6 du ++ low 6 rf)).toArray⟩ = a := ⟨_, rfl⟩
 obtain ⟨c, hc⟩ : ∃ a : ByteArray, ⟨(textsL [tp, tg, bd]).toArray⟩ = a := ⟨_, rfl⟩
 obtain ⟨d, hd⟩ : ∃ a : ByteArray, ⟨(low 1 ks.length ++ textsL ks).toArray⟩ = a := ⟨_, rfl⟩
 rw [ha] at hn1 z1 hcat
 rw [hb] at hn2 z2 hcat
 rw [hc] at htx z3 hcat
 rw [hd] at hlist z4 hcat
 rw [← hcat.out]
 clear ha hb hc hd hcat htb hlb hll hks hkl hk f1 f2 f3 f4 f5 f6 f7 f8 f9 f10 f11
 have c0 := cell_of Hn.out 0
 have c1 := cell_of Hn.out 1
 have c2 := cell_of Hn.out 2
 have c3 := cell_of Hn.out 3
 have c4 := cell_of Hn.out 4
 have c5 := cell_of Hn.out 5
 have c6 := cell_of Hn.out 6
 have c7 := cell_of Hn.out 7
 have c8 := cell_of Hn.out 8
 have c9 := cell_of Hn.out 9
 have hlt := heap_lt Hn.out
 go_enter Tryz.func172, Tryz.ntmps172
 go_wp2_with fail
 clear hW1
 refine hn1.out.mono ?_
 rintro e w2 ⟨rfl, hc2⟩
 have J2 := box (heap_calm hc2 Hn.out)
 have C2 := box (H0.out.trans hc2)
 clear hc2 c0 c1 c2 c3 c4 c5 c6 c7 c8 c9 hlt
 have c0 := cell_of J2.out 0
 have c1 := cell_of J2.out 1
 have c2 := cell_of J2.out 2
 have c3 := cell_of J2.out 3
 have c4 := cell_of J2.out 4
 have c5 := cell_of J2.out 5
 have c6 := cell_of J2.out 6
 have c7 := cell_of J2.out 7
 have c8 := cell_of J2.out 8
 have c9 := cell_of J2.out 9
 have hlt := heap_lt J2.out
 go_wp2_with fail
 refine (hn2.out _).mono ?_
 rintro e w3 ⟨rfl, hc3⟩
 have J3 := box (heap_calm hc3 J2.out)
 have C3 := box (C2.out.trans hc3)
 clear hc3 c0 c1 c2 c3 c4 c5 c6 c7 c8 c9 hlt
 have c0 := cell_of J3.out 0
 have c1 := cell_of J3.out 1
 have c2 := cell_of J3.out 2
 have c3 := cell_of J3.out 3
 have c4 := cell_of J3.out 4
 have c5 := cell_of J3.out 5
 have c6 := cell_of J3.out 6
 have c7 := cell_of J3.out 7
 have c8 := cell_of J3.out 8
 have c9 := cell_of J3.out 9
 have hlt := heap_lt J3.out
 go_wp2_with fail
 refine (htx.out _).mono ?_
 rintro e w4 ⟨rfl, hc4⟩
 have hc4 := ((Calm.refl w3).alloc (.cells #[.string tp, .string tg, .string bd] 9)).trans hc4
 have J4 := box (heap_calm hc4 J3.out)
 have C4 := box (C3.out.trans hc4)
 clear hc4 c0 c1 c2 c3 c4 c5 c6 c7 c8 c9 hlt
 have c0 := cell_of J4.out 0
 have c1 := cell_of J4.out 1
 have c2 := cell_of J4.out 2
 have c3 := cell_of J4.out 3
 have c4 := cell_of J4.out 4
 have c5 := cell_of J4.out 5
 have c6 := cell_of J4.out 6
 have c7 := cell_of J4.out 7
 have c8 := cell_of J4.out 8
 have c9 := cell_of J4.out 9
 have hlt := heap_lt J4.out
 go_wp2_with fail
 refine (hlist.out _ C4.out).mono ?_
 rintro e w5 ⟨rfl, hc5⟩
 have C5 := box (C4.out.trans hc5)
 clear hc5
 go_wp2_with fail
 go_ret
 exact ⟨rfl, C5.out⟩
end Go.Proofs.YtjpokaifbnkmhaaGreatDoor.rc
