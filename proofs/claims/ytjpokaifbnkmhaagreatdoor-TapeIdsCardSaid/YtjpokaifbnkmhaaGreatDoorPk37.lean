/- Lemmas for this claim. -/
import Derived.Stop.LaidErr
import Derived.Test.YtjpokaifbnkmhaaGreatDoorPk36
namespace Go.Proofs.YtjpokaifbnkmhaaGreatDoor.tp
open Go.ChangeShapes Go.WideShapes Go.ChangeAt Go.RowKit Go.ChangeMaps Go.MapKept
open Go.Proofs.YtjpokaifbnkmhaaGreatDoor.rc Go.Proofs.YtjpokaifbnkmhaaGreatDoor.oc Go.Proofs.YtjpokaifbnkmhaaGreatDoor.cr Go.Proofs.YtjpokaifbnkmhaaGreatDoor.dk Go.Proofs.YtjpokaifbnkmhaaGreatDoor.sg
theorem id_facts {e : Nat} {m : MsgS} (h : okM m) (he : e % 1024 = 0 ∨ e % 1024 + 3 ≤ 1024) : e ≤ idP e m ∧ idP e m + (recB m).size = e + costP e m ∧ idP e m / 1024 = (idP e m + (recB m).size - 1) / 1024 ∧ 7 ≤ (recB m).size ∧ (recB m).size ≤ 321 := by
  have hb := recB_bounds h.1 h.2
  have hl := laid_len (m := m) he
  have hc : costP e m = (flat (laidP e m)).length := by unfold costP; rw [if_pos h]
  rw [hc, hl]
  unfold idP
  by_cases hg : goesIn e (recB m).size
  · rw [if_pos hg, if_pos hg]
    unfold goesIn roomAt at hg
    refine ⟨Nat.le_refl _, rfl, ?_, hb.1, hb.2⟩
    omega
  · rw [if_neg hg, if_neg hg]
    have := behind_fill e
    unfold roomAt at this ⊢
    refine ⟨by omega, by omega, by omega, hb.1, hb.2⟩
theorem size_here {L : List (Nat × MsgS)} {x : Nat × MsgS} (hr : Rises (L ++ [x])) : sizeOf' (L ++ [x]) (x.1 : Int) = (recB x.2).size := by
  unfold sizeOf'
  rw [rec_mem hr (List.mem_append_right _ List.mem_cons_self)]
theorem fair_of {w : World} {m : MsgS} {kv : Value} (hk : StrsAt w kv m.keys) (hz : MsgZ m) (hs : Small m) : Fair w m kv :=
  ⟨hk, hz.2.2.2.2.1, by have := hs.2.2.2.1; omega, by have := hs.1; omega⟩
abbrev MsgCells (w : World) (b : Nat) (m : MsgS) (kv : Value) : Prop := w.cell? ⟨b, 0, none⟩ = some (.int .i64 m.kind) ∧ w.cell? ⟨b, 1, none⟩ = some (.int .i64 m.queue) ∧ w.cell? ⟨b, 2, none⟩ = some (.int .i64 m.due) ∧ w.cell? ⟨b, 3, none⟩ = some (.int .i64 m.retry) ∧ w.cell? ⟨b, 4, none⟩ = some (.int .i64 m.ref) ∧ w.cell? ⟨b, 5, none⟩ = some (.int .i64 m.born) ∧ w.cell? ⟨b, 6, none⟩ = some (.string m.topic) ∧ w.cell? ⟨b, 7, none⟩ = some (.string m.tag) ∧ w.cell? ⟨b, 8, none⟩ = some (.string m.body) ∧ w.cell? ⟨b, 9, none⟩ = some kv
structure Il (W : World) (t p c k : Nat) (z : Int) (w : World) : Prop where
  at_ : ∃ S G, Lt W t p c k S G w ∧ z < (S.R.fin : Int) + (if z < 0 then 1 else 0)
  lo : -1 ≤ z
set_option maxRecDepth 100000 in
set_option maxHeartbeats 16000000 in
theorem ids.walk (W : World) (ht : Tab W) (v : Value) (l : List MsgS) (rv : RowsAt MsgR 10 W v l) :
    Calls Tryz.prog 4 #[v] W fun e W' => e = .returned (.bool true) ∧ Calm W W' := by
  have Rv := box rv
  obtain ⟨la, lcap, rfl, hll, hle⟩ := RowsAt.msgs rv
  have Hle := box hle
  have haw := box (awake_any W ht)
  have HT := box ht
  unfold maxLen at hll
  clear ht rv hle
  go_enter Tryz.func4, Tryz.ntmps4
  go_wp2_with fail
  refine haw.out.mono ?_
  rintro e w1 ⟨rfl, hc1⟩
  have C1 := box hc1
  clear hc1 haw
  by_cases h1 : 80 < l.length
  · have t1 : decide ((80 : Int) < (l.length : Int)) = true := decide_eq_true (by omega)
    go_wp2_with fail
    go_ret
    exact ⟨rfl, C1.out⟩
  have t1 : decide ((80 : Int) < (l.length : Int)) = false := decide_eq_false (by omega)
  have hl80 : l.length ≤ 80 := by omega
  clear h1
  have hgr := box (GreatL_any _ l w1 (Rv.out.calm MsgR.lasts C1.out))
  go_wp2_with fail
  refine hgr.out.mono ?_
  rintro e w2 ⟨g, rfl, hc2, hsm⟩
  have C2 := box (C1.out.trans hc2)
  cases g
  case true =>
    clear hc2 hgr hsm
    go_wp2_with fail
    go_ret
    exact ⟨rfl, C2.out⟩
  have Hsm := box (hsm rfl)
  clear hc2 hgr hsm
  go_wp2_with fail
  refine (New_ok w2 1048576).mono ?_
  rintro e w3 ⟨p, F3, rfl, hd3, hc3, hF3⟩
  have hopen := box (open_new (W := W) 1048576 (by decide) hd3 HT.out (C2.out.trans hc3) (fun b hb => Nat.le_trans C2.out.size (hF3 b hb)))
  clear hd3 hc3 hF3
  go_wp2_with fail
  refine hopen.out.mono ?_
  rintro e w4 ⟨t, S, G, rfl, hL, _, _, _⟩
  have I4 := box (⟨⟨S, G, hL, by rw [if_pos (by decide)]; omega⟩, Int.le_refl _⟩ : Il W t p 1048576 0 (-1) w4)
  clear hL hopen t1
  go_wp2_with fail
  go_loopw [5, 31] (fun lv iv wr => ∃ (k : Nat) (z : Int), k ≤ l.length ∧ lv = .int .i64 z ∧ iv = .int .i64 (k : Int) ∧ Box (Il W t p 1048576 k z wr)) (fun _ iv _ => l.length - (intOf iv).toNat)
  case atStart => exact ⟨0, -1, Nat.zero_le _, rfl, rfl, I4⟩
  case round =>
    obtain ⟨k, z, hk, rfl, rfl, HI⟩ := hrel
    obtain ⟨⟨S, G, hL, hz⟩, hlo⟩ := HI.out
    have hown := hL.owns
    have HO := box hown
    by_cases hkl : k < l.length
    · obtain ⟨eb, eoff, kv, rfl, heb, hec, hks, hmz⟩ := Hle.out k hkl
      have hsm := Hsm.out l[k] (List.getElem_mem hkl)
      obtain ⟨⟨kd, q, du, rt, rf, bn, tp_, tg, bd, ks⟩, hm⟩ : ∃ m, l[k] = m := ⟨_, rfl⟩
      rw [hm] at hec hks hmz hsm
      have c0 := (hown.cell (p := ⟨eb, eoff + k * 10, none⟩) heb).trans (hec 0 (by decide))
      have c1 := (hown.cell (p := ⟨eb, eoff + k * 10 + 1, none⟩) heb).trans (hec 1 (by decide))
      have c2 := (hown.cell (p := ⟨eb, eoff + k * 10 + 2, none⟩) heb).trans (hec 2 (by decide))
      have c3 := (hown.cell (p := ⟨eb, eoff + k * 10 + 3, none⟩) heb).trans (hec 3 (by decide))
      have c4 := (hown.cell (p := ⟨eb, eoff + k * 10 + 4, none⟩) heb).trans (hec 4 (by decide))
      have c5 := (hown.cell (p := ⟨eb, eoff + k * 10 + 5, none⟩) heb).trans (hec 5 (by decide))
      have c6 := (hown.cell (p := ⟨eb, eoff + k * 10 + 6, none⟩) heb).trans (hec 6 (by decide))
      have c7 := (hown.cell (p := ⟨eb, eoff + k * 10 + 7, none⟩) heb).trans (hec 7 (by decide))
      have c8 := (hown.cell (p := ⟨eb, eoff + k * 10 + 8, none⟩) heb).trans (hec 8 (by decide))
      have c9 := (hown.cell (p := ⟨eb, eoff + k * 10 + 9, none⟩) heb).trans (hec 9 (by decide))
      simp only [List.getElem?_toArray, List.getElem?_cons_zero, List.getElem?_cons_succ] at c0 c1 c2 c3 c4 c5 c6 c7 c8 c9
      have hlt := Nat.lt_of_lt_of_le heb hown.size
      have hfair := fair_of (m := ⟨kd, q, du, rt, rf, bn, tp_, tg, bd, ks⟩) (hks.calm hown) hmz hsm
      obtain ⟨ka, kcap, rfl, _⟩ := (hks.calm hown).uni
      clear hks hmz hsm hec
      obtain ⟨wa, hwa⟩ : ∃ wa, wr.alloc (.cells (msgA ⟨kd, q, du, rt, rf, bn, tp_, tg, bd, ks⟩ (.slice ka ks.length kcap)) 62) = wa := ⟨_, rfl⟩
      have Ja := box (show wa.heap[wr.heap.size]? = some (.cells (msgA ⟨kd, q, du, rt, rf, bn, tp_, tg, bd, ks⟩ (.slice ka ks.length kcap)) 62 (0, 0)) by rw [← hwa]; exact heap_new wr _)
      have Ca := box (show Calm wr wa by rw [← hwa]; exact (Calm.refl wr).alloc _)
      have HLa := box (hL.calm Ca.out)
      have Hn := box (show ¬ G wr.heap.size from fun e => Nat.lt_irrefl _ (hL.lt _ e))
      have Hfa := box (hfair.calm Ca.out)
      clear hL hfair HI hown
      go_wp2_with fail
      have hcs := box (fun W' (hc : Calm wa W') => (⟨cell_of (heap_calm hc Ja.out) 0, cell_of (heap_calm hc Ja.out) 1, cell_of (heap_calm hc Ja.out) 2, cell_of (heap_calm hc Ja.out) 3, cell_of (heap_calm hc Ja.out) 4, cell_of (heap_calm hc Ja.out) 5, cell_of (heap_calm hc Ja.out) 6, cell_of (heap_calm hc Ja.out) 7, cell_of (heap_calm hc Ja.out) 8, cell_of (heap_calm hc Ja.out) 9⟩ : MsgCells W' wr.heap.size ⟨kd, q, du, rt, rf, bn, tp_, tg, bd, ks⟩ (.slice ka ks.length kcap)))
      have dlt := heap_lt Ja.out
      obtain ⟨d0, d1, d2, d3, d4, d5, d6, d7, d8, d9⟩ := hcs.out wa (Calm.refl _)
      clear c0 c1 c2 c3 c4 c5 c6 c7 c8 c9
      go_region_held3 (fun w' => MsgCells w' wr.heap.size ⟨kd, q, du, rt, rf, bn, tp_, tg, bd, ks⟩ (.slice ka ks.length kcap)) (first | go_keep | exact hcs.out _ (by (repeat' (first | (with_reducible exact Calm.refl _) | (with_reducible assumption) | (with_reducible refine Calm.drew ?_) | (with_reducible refine Calm.alloc ?_ _) | (with_reducible refine Calm.trans ?_ (by assumption)))))) (first
        | (go_at_call 27; refine ((HLa.out.calm (by (repeat' (first | (with_reducible exact Calm.refl _) | (with_reducible assumption) | (with_reducible refine Calm.drew ?_) | (with_reducible refine Calm.alloc ?_ _) | (with_reducible refine Calm.trans ?_ (by assumption)))))).end_).mono ?_; rintro e w5 ⟨rfl, rfl⟩)
        | (go_at_call 28; refine ((HLa.out.calm (by (repeat' (first | (with_reducible exact Calm.refl _) | (with_reducible assumption) | (with_reducible refine Calm.drew ?_) | (with_reducible refine Calm.alloc ?_ _) | (with_reducible refine Calm.trans ?_ (by assumption)))))).cost ⟨kd, q, du, rt, rf, bn, tp_, tg, bd, ks⟩ _ (Hfa.out.calm (by (repeat' (first | (with_reducible exact Calm.refl _) | (with_reducible assumption) | (with_reducible refine Calm.drew ?_) | (with_reducible refine Calm.alloc ?_ _) | (with_reducible refine Calm.trans ?_ (by assumption))))))).mono ?_; rintro e w6 ⟨rfl, hc6⟩))
      have HC6 := box (show Calm wa w6 by (repeat' (first | (with_reducible exact Calm.refl _) | (with_reducible assumption) | (with_reducible refine Calm.drew ?_) | (with_reducible refine Calm.alloc ?_ _) | (with_reducible refine Calm.trans ?_ (by assumption)))))
      obtain ⟨m, hmE⟩ : ∃ m : MsgS, (⟨kd, q, du, rt, rf, bn, tp_, tg, bd, ks⟩ : MsgS) = m := ⟨_, rfl⟩
      have HL6 := box (HLa.out.calm HC6.out)
      have hap := HL6.out.append (by omega) ⟨kd, q, du, rt, rf, bn, tp_, tg, bd, ks⟩ _ (Hfa.out.calm HC6.out)
      have Hap := box hap
      clear hap hcs d0 d1 d2 d3 d4 d5 d6 d7 d8 d9 hc6
      obtain ⟨d0, d1, d2, d3, d4, d5, d6, d7, d8, d9⟩ := ‹MsgCells w6 _ _ _›
      have dlt6 : wr.heap.size < w6.heap.size := Nat.lt_of_lt_of_le dlt HC6.out.size
      have Hez := box HL6.out.end_ok
      have hfin := HL6.out.fin
      have hsz := HL6.out.size
      have hcl := cost_le S.R.fin ⟨kd, q, du, rt, rf, bn, tp_, tg, bd, ks⟩
      have Hris := box HL6.out.rises
      have Hcz := box (show ¬ okM ⟨kd, q, du, rt, rf, bn, tp_, tg, bd, ks⟩ → costP S.R.fin ⟨kd, q, du, rt, rf, bn, tp_, tg, bd, ks⟩ = 0 from fun h => by unfold costP; rw [if_neg h])
      obtain ⟨cs, hcs⟩ : ∃ cs, costP S.R.fin ⟨kd, q, du, rt, rf, bn, tp_, tg, bd, ks⟩ = cs := ⟨_, rfl⟩
      have Hcs := box hcs
      rw [hcs] at Hcz hcl ⊢
      clear hcs
      go_wp2_with fail
      refine Hap.out.mono ?_
      clear Hap d0 d1 d2 d3 d4 d5 d6 d7 d8 d9
      rintro e w7 (⟨a1, rfl, G7, hL7, hS7⟩ | ⟨a1, a2, _⟩ | ⟨a1, a2, rfl, S7, G7, hD7, hL7, hS7⟩)
      · have hc0 := Hcz.out a1
        subst hc0
        have Hnx := box (⟨⟨S, G7, hL7, hz⟩, hlo⟩ : Il W t p 1048576 (k + 1) z w7)
        have hend := box hL7.end_
        clear hL7 hS7 a1
        go_wp2_with fail
        refine hend.out.mono ?_
        rintro e w8 ⟨rfl, rfl⟩
        go_wp2_with fail
        go_roundw
        case rel => exact ⟨k + 1, z, by omega, rfl, by go_num, Hnx⟩
        case measure => simp [intOf]; omega
      · exact absurd a2 (by rw [Hcs.out]; omega)
      · obtain ⟨f1, f2, f3, f4, f5⟩ := id_facts a1 Hez.out
        have hrec := HL6.out.recs hD7
        have hf7 := hD7.fin
        rw [Hcs.out] at f2 hf7
        have hszT := hL7.size_ (idP S.R.fin ⟨kd, q, du, rt, rf, bn, tp_, tg, bd, ks⟩ : Int)
        rw [hrec, size_here (x := (idP S.R.fin ⟨kd, q, du, rt, rf, bn, tp_, tg, bd, ks⟩, ⟨kd, q, du, rt, rf, bn, tp_, tg, bd, ks⟩)) (hrec ▸ hL7.rises)] at hszT
        have hend := hL7.end_
        rw [hf7, Int.natCast_add] at hend
        obtain ⟨sz, hsz7⟩ : ∃ sz, (recB ⟨kd, q, du, rt, rf, bn, tp_, tg, bd, ks⟩).size = sz := ⟨_, rfl⟩
        obtain ⟨id, hid⟩ : ∃ id, idP S.R.fin ⟨kd, q, du, rt, rf, bn, tp_, tg, bd, ks⟩ = id := ⟨_, rfl⟩
        simp only at hszT
        rw [hsz7] at f2 f3 f4 f5 hszT
        rw [hid] at f1 f2 f3 hszT ⊢
        have Hnx := box (⟨⟨S7, G7, hL7, by rw [hf7, if_neg (by omega)]; omega⟩, by omega⟩ : Il W t p 1048576 (k + 1) (id : Int) w7)
        have HszT := box hszT
        have Hend := box hend
        have hzid : z < (id : Int) := by split at hz <;> omega
        have g1 : decide ((id : Int) ≤ z) = false := decide_eq_false (by omega)
        have g2 : ((sz : Int) == 0) = false := by rw [beq_eq_false_iff_ne]; omega
        have g3 : decide ((id : Int) < (S.R.fin : Int)) = false := decide_eq_false (by omega)
        clear hL7 hS7 a1 hszT hend hD7 hrec hsz7 hid hf7
        go_wp2_with fail
        refine HszT.out.mono ?_
        rintro e w8 ⟨rfl, rfl⟩
        go_wp2_with fail
        refine Hend.out.mono ?_
        rintro e w9 ⟨rfl, rfl⟩
        go_wp2_with fail
        refine Hend.out.mono ?_
        rintro e w9 ⟨rfl, rfl⟩
        go_wp2_with fail
        go_roundw
        case rel => exact ⟨k + 1, id, by omega, rfl, by go_num, Hnx⟩
        case measure => simp [intOf]; omega
    · have he : k = l.length := by omega
      subst he
      go_wp2_with fail
      go_ret
      exact ⟨rfl, HO.out⟩
end Go.Proofs.YtjpokaifbnkmhaaGreatDoor.tp
