/- Lemmas for this claim. -/
import Derived.Stop.LaidErr
import Derived.Test.YtjpokaifbnkmhaaGreatDoorPk36
namespace Go.Proofs.YtjpokaifbnkmhaaGreatDoor.tp
open Go.ChangeShapes Go.WideShapes Go.ChangeAt Go.RowKit Go.ChangeMaps Go.MapKept
open Go.Proofs.YtjpokaifbnkmhaaGreatDoor.rc Go.Proofs.YtjpokaifbnkmhaaGreatDoor.oc Go.Proofs.YtjpokaifbnkmhaaGreatDoor.cr Go.Proofs.YtjpokaifbnkmhaaGreatDoor.dk Go.Proofs.YtjpokaifbnkmhaaGreatDoor.sg
theorem id_facts {e : Nat} {m : MsgS} (h : okM m) (he : e % 1024 = 0 ∨ e % 1024 + 3 ≤ 1024) : e ≤ idP e m ∧ idP e m + (recB m).size = e + costP e m ∧ idP e m / 1024 = (idP e m + (recB m).size - 1) / 1024 ∧ 7 ≤ (recB m).size ∧ (recB m).size ≤ 321 := by
  have hb := recB_bounds h.1 h.2
  have hl := laid_len (m := m) he
  have hc : costP e m = (flat (laidP e m)).length := by unfold costP; rw [if_pos h]
  rw [hc, hl]
  unfold idP
  by_cases hg : goesIn e (recB m).size
  · rw [if_pos hg, if_pos hg]
    unfold goesIn roomAt at hg
    refine ⟨Nat.le_refl _, rfl, ?_, hb.1, hb.2⟩
    omega
  · rw [if_neg hg, if_neg hg]
    have := behind_fill e
    unfold roomAt at this ⊢
    refine ⟨by omega, by omega, by omega, hb.1, hb.2⟩
theorem size_here {L : List (Nat × MsgS)} {x : Nat × MsgS} (hr : Rises (L ++ [x])) : sizeOf' (L ++ [x]) (x.1 : Int) = (recB x.2).size := by
  unfold sizeOf'
  rw [rec_mem hr (List.mem_append_right _ List.mem_cons_self)]
theorem fair_of {w : World} {m : MsgS} {kv : Value} (hk : StrsAt w kv m.keys) (hz : MsgZ m) (hs : Small m) : Fair w m kv :=
  ⟨hk, hz.2.2.2.2.1, by have := hs.2.2.2.1; omega, by have := hs.1; omega⟩
abbrev MsgCells (w : World) (b : Nat) (m : MsgS) (kv : Value) : Prop := w.cell? ⟨b, 0, none⟩ = some (.int .i64 m.kind) ∧ w.cell? ⟨b, 1, none⟩ = some (.int .i64 m.queue) ∧ w.cell? ⟨b, 2, none⟩ = some (.int .i64 m.due) ∧ w.cell? ⟨b, 3, none⟩ = some (.int .i64 m.retry) ∧ w.cell? ⟨b, 4, none⟩ = some (.int .i64 m.ref) ∧ w.cell? ⟨b, 5, none⟩ = some (.int .i64 m.born) ∧ w.cell? ⟨b, 6, none⟩ = some (.string m.topic) ∧ w.cell? ⟨b, 7, none⟩ = some (.string m.tag) ∧ w.cell? ⟨b, 8, none⟩ = some (.string m.body) ∧ w.cell? ⟨b, 9, none⟩ = some kv
structure Il (W : World) (t p c k : Nat) (z : Int) (w : World) : Prop where
  at_ : ∃ S G, Lt W t p c k S G w ∧ z < (S.R.fin : Int) + (if z < 0 then 1 else 0)
  lo : -1 ≤ z
set_option maxRecDepth 100000 in
set_option maxHeartbeats 16000000 in
theorem ids.walk (W : World) (ht : Tab W) (v : Value) (l : List MsgS) (rv : RowsAt MsgR 10 W v l) :
    Calls Tryz.prog 4 #[v] W fun e W' => e = .returned (.bool true) ∧ Calm W W' := by
  have Rv := box rv
  obtain ⟨la, lcap, rfl, hll, hle⟩ := RowsAt.msgs rv
  have Hle := box hle
  have haw := box (awake_any W ht)
  have HT := box ht
  unfold maxLen at hll
  clear ht rv hle
  go_enter Tryz.func4, Tryz.ntmps4
  go_wp2_with fail
  refine haw.out.mono ?_
  rintro e w1 ⟨rfl, hc1⟩
  have C1 := box hc1
  clear hc1 haw
  by_cases h1 : 80 < l.length
  · have t1 : decide ((80 : Int) < (l.length : Int)) = true := decide_eq_true (by omega)
    go_wp2_with fail
    go_ret
    exact ⟨rfl, C1.out⟩
  have t1 : decide ((80 : Int) < (l.length : Int)) = false := decide_eq_false (by omega)
  have hl80 : l.length ≤ 80 := by omega
  clear h1
  have hgr := box (GreatL_any _ l w1 (Rv.out.calm MsgR.lasts C1.out))
  go_wp2_with fail
  refine hgr.out.mono ?_
  rintro e w2 ⟨g, rfl, hc2, hsm⟩
  have C2 := box (C1.out.trans hc2)
  cases g
  case true =>
    clear hc2 hgr hsm
    go_wp2_with fail
    go_ret
    exact ⟨rfl, C2.out⟩
  have Hsm := box (hsm rfl)
  clear hc2 hgr hsm
  go_wp2_with fail
  refine (New_ok w2 1048576).mono ?_
  rintro e w3 ⟨p, F3, rfl, hd3, hc3, hF3⟩
  have hopen := box (open_new (W := W) 1048576 (by decide) hd3 HT.out (C2.out.trans hc3) (fun b hb => Nat.le_trans C2.out.size (hF3 b hb)))
  clear hd3 hc3 hF3
  go_wp2_with fail
  refine hopen.out.mono ?_
  rintro e w4 ⟨t, S, G, rfl, hL, _, _, _⟩
  have I4 := box (⟨⟨S, G, hL, by rw [if_pos (by decide)]; omega⟩, Int.le_refl _⟩ : Il W t p 1048576 0 (-1) w4)
  clear hL hopen t1
  go_wp2_with fail
  go_loopw [5, 31] (fun lv iv wr => ∃ (k : Nat) (z : Int), k ≤ l.length ∧ lv = .int .i64 z ∧ iv = .int .i64 (k : Int) ∧ Box (Il W t p 1048576 k z wr)) (fun _ iv _ => l.length - (intOf iv).toNat)
  case atStart => exact ⟨0, -1, Nat.zero_le _, rfl, rfl, I4⟩
  case round =>
    obtain ⟨k, z, hk, rfl, rfl, HI⟩ := hrel
    obtain ⟨⟨S, G, hL, hz⟩, hlo⟩ := HI.out
    have hown := hL.owns
    have HO := box hown
    by_cases hkl : k < l.length
    · obtain ⟨eb, eoff, kv, rfl, heb, hec, hks, hmz⟩ := Hle.out k hkl
      have hsm := Hsm.out l[k] (List.getElem_mem hkl)
      obtain ⟨⟨kd, q, du, rt, rf, bn, tp_, tg, bd, ks⟩, hm⟩ : ∃ m, l[k] = m := ⟨_, rfl⟩
      rw [hm] at hec hks hmz hsm
      have c0 := (hown.cell (p := ⟨eb, eoff + k * 10, none⟩) heb).trans (hec 0 (by decide))
      have c1 := (hown.cell (p := ⟨eb, eoff + k * 10 + 1, none⟩) heb).trans (hec 1 (by decide))
      have c2 := (hown.cell (p := ⟨eb, eoff + k * 10 + 2, none⟩) heb).trans (hec 2 (by decide))
      have c3 := (hown.cell (p := ⟨eb, eoff + k * 10 + 3, none⟩) heb).trans (hec 3 (by decide))
      have c4 := (hown.cell (p := ⟨eb, eoff + k * 10 + 4, none⟩) heb).trans (hec 4 (by decide))
      have c5 := (hown.cell (p := ⟨eb, eoff + k * 10 + 5, none⟩) heb).trans (hec 5 (by decide))
      have c6 := (hown.cell (p := ⟨eb, eoff + k * 10 + 6, none⟩) heb).trans (hec 6 (by decide))
      have c7 := (hown.cell (p := ⟨eb, eoff + k * 10 + 7, none⟩) heb).trans (hec 7 (by decide))
      have c8 := (hown.cell (p := ⟨eb, eoff + k * 10 + 8, none⟩) heb).trans (hec 8 (by decide))
      have c9 := (hown.cell (p := ⟨eb, eoff + k * 10 + 9, none⟩) heb).trans (hec 9 (by decide))
      simp only [List.getElem?_toArray, List.getElem?_cons_zero, List.getElem?_cons_succ] at c0 c1 c2 c3 c4 c5 c6 c7 c8 c9
      have hlt := Nat.lt_of_lt_of_le heb hown.size
      have hfair := fair_of (m := ⟨kd, q, du, rt, rf, bn, tp_, tg, bd, ks⟩) (hks.calm hown) hmz hsm
      obtain ⟨ka, kcap, rfl, _⟩ := (hks.calm hown).uni
      clear hks hmz hsm hec
      obtain ⟨wa, hwa⟩ : ∃ wa, wr.alloc (.cells (msgA ⟨kd, q, du, rt, rf, bn, tp_, tg, bd, ks⟩ (.slice ka ks.length kcap)) 62) = wa := ⟨_, rfl⟩
      have Ja := box (show wa.heap[wr.heap.size]? = some (.cells (msgA ⟨kd, q, du, rt, rf, bn, tp_, tg, bd, ks⟩ (.slice ka ks.length kcap)) 62 (0, 0)) by rw [← hwa]; exact heap_new wr _)
      have Ca := box (show Calm wr wa by rw [← hwa]; exact (Calm.refl wr).alloc _)
      have HLa := box (hL.calm Ca.out)
      have Hn := box (show ¬ G wr.heap.size from fun e => Nat.lt_irrefl _ (hL.lt _ e))
      have Hfa := box (hfair.calm Ca.out)
      clear hL hfair HI hown
      go_wp2_with fail
      have hcs := box (fun W' (hc : Calm wa W') => (⟨cell_of (heap_calm hc Ja.out) 0, cell_of (heap_calm hc Ja.out) 1, cell_of (heap_calm hc Ja.out) 2, cell_of (heap_calm hc Ja.out) 3, cell_of (heap_calm hc Ja.out) 4, cell_of (heap_calm hc Ja.out) 5, cell_of (heap_calm hc Ja.out) 6, cell_of (heap_calm hc Ja.out) 7, cell_of (heap_calm hc Ja.out) 8, cell_of (heap_calm hc Ja.out) 9⟩ : MsgCells W' wr.heap.size ⟨kd, q, du, rt, rf, bn, tp_, tg, bd, ks⟩ (.slice ka ks.length kcap)))
      have dlt := heap_lt Ja.out
      obtain ⟨d0, d1, d2, d3, d4, d5, d6, d7, d8, d9⟩ := hcs.out wa (Calm.refl _)
      clear c0 c1 c2 c3 c4 c5 c6 c7 c8 c9
      go_region_held3 (fun w' => MsgCells w' wr.heap.size ⟨kd, q, du, rt, rf, bn, tp_, tg, bd, ks⟩ (.slice ka ks.length kcap)) (first | go_keep | exact hcs.out _ (by (repeat' (first | (with_reducible exact Calm.refl _) | (with_reducible assumption) | (with_reducible refine Calm.drew ?_) | (with_reducible refine Calm.alloc ?_ _) | (with_reducible refine Calm.trans ?_ (by assumption)))))) (first
        | (go_at_call 27; refine ((HLa.out.calm (by (repeat' (first | (with_reducible exact Calm.refl _) | (with_reducible assumption) | (with_reducible refine Calm.drew ?_) | (with_reducible refine Calm.alloc ?_ _) | (with_reducible refine Calm.trans ?_ (by assumption)))))).end_).mono ?_; rintro e w5 ⟨rfl, rfl⟩)
        | (go_at_call 28; refine ((HLa.out.calm (by (repeat' (first | (with_reducible exact Calm.refl _) | (with_reducible assumption) | (with_reducible refine Calm.drew ?_) | (with_reducible refine Calm.alloc ?_ _) | (with_reducible refine Calm.trans ?_ (by assumption)))))).cost ⟨kd, q, du, rt, rf, bn, tp_, tg, bd, ks⟩ _ (Hfa.out.calm (by (repeat' (first | (with_reducible exact Calm.refl _) | (with_reducible assumption) | (with_reducible refine Calm.drew ?_) | (with_reducible refine Calm.alloc ?_ _) | (with_reducible refine Calm.trans ?_ (by assumption))))))).mono ?_; rintro e w6 ⟨rfl, hc6⟩))
      have HC6 := box (show Calm wa w6 by (repeat' (first | (with_reducible exact Calm.refl _) | (with_reducible assumption) | (with_reducible refine Calm.drew ?_) | (with_reducible refine Calm.alloc ?_ _) | (with_reducible refine Calm.trans ?_ (by assumption)))))
      obtain ⟨m, hmE⟩ : ∃ m : MsgS, (⟨kd, q, du, rt, rf, bn, tp_, tg, bd, ks⟩ : MsgS) = m := ⟨_, rfl⟩
      have HL6 := box (HLa.out.calm HC6.out)
      have hap := HL6.out.append (by omega) ⟨kd, q, du, rt, rf, bn, tp_, tg, bd, ks⟩ _ (Hfa.out.calm HC6.out)
      have Hap := box hap
      clear hap hcs d0 d1 d2 d3 d4 d5 d6 d7 d8 d9 hc6
      obtain ⟨d0, d1, d2, d3, d4, d5, d6, d7, d8, d9⟩ := ‹MsgCells w6 _ _ _›
      have dlt6 : wr.heap.size < w6.heap.size := Nat.lt_of_lt_of_le dlt HC6.out.size
      have Hez := box HL6.out.end_ok
      have hfin := HL6.out.fin
      have hsz := HL6.out.size
      have hcl := cost_le S.R.fin ⟨kd, q, du, rt, rf, bn, tp_, tg, bd, ks⟩
      have Hris := box HL6.out.rises
      have Hcz := box (show ¬ okM ⟨kd, q, du, rt, rf, bn, tp_, tg, bd, ks⟩ → costP S.R.fin ⟨kd, q, du, rt, rf, bn, tp_, tg, bd, ks⟩ = 0 from fun h => by unfold costP; rw [if_neg h])
      obtain ⟨cs, hcs⟩ : ∃ cs, costP S.R.fin ⟨kd, q, du, rt, rf, bn, tp_, tg, bd, ks⟩ = cs := ⟨_, rfl⟩
      have Hcs := box hcs
      rw [hcs] at Hcz hcl ⊢
      clear hcs
      go_wp2_with fail
      refine Hap.out.mono ?_
      clear Hap d0 d1 d2 d3 d4 d5 d6 d7 d8 d9
      rintro e w7 (⟨a1, rfl, G7, hL7, hS7⟩ | ⟨a1, a2, _⟩ | ⟨a1, a2, rfl, S7, G7, hD7, hL7, hS7⟩)
      · have hc0 := Hcz.out a1
        subst hc0
        have Hnx := box (⟨⟨S, G7, hL7, hz⟩, hlo⟩ : Il W t p 1048576 (k + 1) z w7)
        have hend := box hL7.end_
        clear hL7 hS7 a1
        go_wp2_with fail
        refine hend.out.mono ?_
        rintro e w8 ⟨rfl, rfl⟩
        go_wp2_with fail
        go_roundw
        case rel => exact ⟨k + 1, z, by omega, rfl, by go_num, Hnx⟩
        case measure => simp [intOf]; omega
      · exact absurd a2 (by rw [Hcs.out]; omega)
      · obtain ⟨f1, f2, f3, f4, f5⟩ := id_facts a1 Hez.out
        have hrec := HL6.out.recs hD7
        have hf7 := hD7.fin
        rw [Hcs.out] at f2 hf7
        have hszT := hL7.size_ (idP S.R.fin ⟨kd, q, du, rt, rf, bn, tp_, tg, bd, ks⟩ : Int)
        rw [hrec, size_here (x := (idP S.R.fin ⟨kd, q, du, rt, rf, bn, tp_, tg, bd, ks⟩, ⟨kd, q, du, rt, rf, bn, tp_, tg, bd, ks⟩)) (hrec ▸ hL7.rises)] at hszT
        have hend := hL7.end_
        rw [hf7, Int.natCast_add] at hend
        obtain ⟨sz, hsz7⟩ : ∃ sz, (recB ⟨kd, q, du, rt, rf, bn, tp_, tg, bd, ks⟩).size = sz := ⟨_, rfl⟩
        obtain ⟨id, hid⟩ : ∃ id, idP S.R.fin ⟨kd, q, du, rt, rf, bn, tp_, tg, bd, ks⟩ = id := ⟨_, rfl⟩
        simp only at hszT
        rw [hsz7] at f2 f3 f4 f5 hszT
        rw [hid] at f1 f2 f3 hszT ⊢
        have Hnx := box (⟨⟨S7, G7, hL7, by rw [hf7, if_neg (by omega)]; omega⟩, by omega⟩ : Il W t p 1048576 (k + 1) (id : Int) w7)
        have HszT := box hszT
        have Hend := box hend
        have hzid : z < (id : Int) := by split at hz <;> omega
        have g1 : decide ((id : Int) ≤ z) = false := decide_eq_false (by omega)
        have g2 : ((sz : Int) == 0) = false := by rw [beq_eq_false_iff_ne]; omega
        have g3 : decide ((id : Int) < (S.R.fin : Int)) = false := decide_eq_false (by omega)
        clear hL7 hS7 a1 hszT hend hD7 hrec hsz7 hid hf7
        go_wp2_with fail
        refine HszT.out.mono ?_
        rintro e w8 ⟨rfl, rfl⟩
        go_wp2_with fail
        refine Hend.out.mono ?_
        rintro e w9 ⟨rfl, rfl⟩
        go_wp2_with fail
        refine Hend.out.mono ?_
        rintro e w9 ⟨rfl, rfl⟩
        go_wp2_with fail
        go_roundw
        case rel => exact ⟨k + 1, id, by omega, rfl, by go_num, Hnx⟩
        case measure => simp [intOf]; omega
    · have he : k = l.length := by omega
      subst he
      go_wp2_with fail
      go_ret
      exact ⟨rfl, HO.out⟩
end Go.Proofs.YtjpokaifbnkmhaaGreatDoor.tp

namespace Go.Proofs.YtjpokaifbnkmhaaGreatDoor.tp
open Go.ChangeShapes Go.WideShapes Go.ChangeAt Go.RowKit Go.ChangeMaps Go.MapKept
open Go.Proofs.YtjpokaifbnkmhaaGreatDoor.rc Go.Proofs.YtjpokaifbnkmhaaGreatDoor.oc Go.Proofs.YtjpokaifbnkmhaaGreatDoor.cr Go.Proofs.YtjpokaifbnkmhaaGreatDoor.dk Go.Proofs.YtjpokaifbnkmhaaGreatDoor.sg
set_option maxRecDepth 100000 in
set_option maxHeartbeats 16000000 in
theorem none.walk (W : World) (ht : Tab W) (y : MsgS × Value) (r : MsgIn W y) (at_ : Int) (hw : (Lit.int .u8 at_).wf = true) :
    Calls Tryz.prog 8 #[.agg (msgA y.1 y.2), .int .u8 at_] W fun e W' => e = .returned (.bool true) ∧ Calm W W' := by
  obtain ⟨m, kv⟩ := y
  obtain ⟨hr, z1, z2, z3, zk, zr⟩ := r
  simp only at hr z1 z2 z3
  have hat : 0 ≤ at_ ∧ at_ ≤ 255 := by unfold Lit.wf at hw; simp [IntKind.min, IntKind.max, IntKind.bits, IntKind.signed] at hw; omega
  obtain ⟨hst, hkz⟩ := RowsAt.strs hr
  obtain ⟨ka, kcap, rfl, _⟩ := hst.uni
  have Sa := box hst
  have Za := box hkz
  have Wa := box (show m.body.size ≤ maxLen ∧ m.topic.size ≤ maxLen ∧ m.tag.size ≤ maxLen ∧ m.keys.length ≤ maxLen from ⟨z3, z1, z2, hkz.2⟩)
  have HT := box ht
  clear hr hst hkz z1 z2 z3 zk zr hw ht
  obtain ⟨W1, hW1⟩ : ∃ W1, W.alloc (.cells (msgA m (.slice ka m.keys.length kcap)) 62) = W1 := ⟨_, rfl⟩
  have A0 := box (show W1.heap[W.heap.size]? = some (.cells (msgA m (.slice ka m.keys.length kcap)) 62 (0, 0)) by rw [← hW1]; exact heap_new W _)
  have C0 := box (show Calm W W1 by rw [← hW1]; exact (Calm.refl W).alloc _)
  have a0 := cell_of A0.out 0
  have a1 := cell_of A0.out 1
  have a2 := cell_of A0.out 2
  have a3 := cell_of A0.out 3
  have a4 := cell_of A0.out 4
  have a5 := cell_of A0.out 5
  have a6 := cell_of A0.out 6
  have a7 := cell_of A0.out 7
  have a8 := cell_of A0.out 8
  have a9 := cell_of A0.out 9
  have hla := heap_lt A0.out
  go_enter Tryz.func8, Tryz.ntmps8
  go_wp2_with fail
  clear hW1
  refine (awake_any _ (tab_calm HT.out C0.out)).mono ?_
  rintro e w1 ⟨rfl, hc1⟩
  have A1 := box (heap_calm hc1 A0.out)
  have C1 := box (C0.out.trans hc1)
  clear hc1 a0 a1 a2 a3 a4 a5 a6 a7 a8 a9 hla
  have a0 := cell_of A1.out 0
  have a1 := cell_of A1.out 1
  have a2 := cell_of A1.out 2
  have a3 := cell_of A1.out 3
  have a4 := cell_of A1.out 4
  have a5 := cell_of A1.out 5
  have a6 := cell_of A1.out 6
  have a7 := cell_of A1.out 7
  have a8 := cell_of A1.out 8
  have a9 := cell_of A1.out 9
  have hla := heap_lt A1.out
  have G1 := box (heap_new w1 (.cells (msgA m (.slice ka m.keys.length kcap)) 62))
  have G2 := box ((Calm.refl w1).alloc (.cells (msgA m (.slice ka m.keys.length kcap)) 62))
  go_wp2_with fail
  have hgr := Great_any w1.heap.size m (.slice ka m.keys.length kcap) _ G1.out (Sa.out.calm (C1.out.trans G2.out)) Za.out.1 Wa.out
  refine hgr.mono ?_
  clear hgr
  rintro e w2 ⟨gr, rfl, hc2, hsm⟩
  have hc2 := G2.out.trans hc2
  have A2 := box (heap_calm hc2 A1.out)
  have C2 := box (C1.out.trans hc2)
  clear hc2 hsm a0 a1 a2 a3 a4 a5 a6 a7 a8 a9 hla
  have a0 := cell_of A2.out 0
  have a1 := cell_of A2.out 1
  have a2 := cell_of A2.out 2
  have a3 := cell_of A2.out 3
  have a4 := cell_of A2.out 4
  have a5 := cell_of A2.out 5
  have a6 := cell_of A2.out 6
  have a7 := cell_of A2.out 7
  have a8 := cell_of A2.out 8
  have a9 := cell_of A2.out 9
  have hla := heap_lt A2.out
  cases gr with
  | true =>
    go_wp2_with fail
    go_ret
    exact ⟨rfl, C2.out⟩
  | false =>
    clear G1 G2
    go_wp2_with fail
    refine (AppendNil_any m _ w2).mono ?_
    rintro e w3 ⟨rfl, hc3⟩
    have C3 := box (C2.out.trans hc3)
    have A3 := box (heap_calm hc3 A2.out)
    clear hc3 a0 a1 a2 a3 a4 a5 a6 a7 a8 a9 hla
    go_wp2_with fail
    refine (ReadNil_any 0 w3).mono ?_
    rintro e w4 ⟨rfl, hc4⟩
    have A4 := box (heap_calm hc4 A3.out)
    have C5' := box ((Calm.refl w4).alloc (.cells zeroA 62))
    have C5 := box ((C3.out.trans hc4).trans C5'.out)
    have A5 := box (heap_calm C5'.out A4.out)
    clear hc4
    go_wp2_with fail
    generalize w4.alloc _ = W5 at C5 A5 ⊢
    refine (NextNil_any 0 W5).mono ?_
    rintro e w6 ⟨rfl, rfl⟩
    go_wp2_with fail
    refine (DropNil_any W5).mono ?_
    rintro e w6 ⟨rfl, rfl⟩
    go_wp2_with fail
    refine (OpenNil_any W5).mono ?_
    rintro e w6 ⟨rfl, rfl⟩
    go_upto_region 11 with fail
    clear C5' A4 A3 C3 A2 C2 A1 C1 A0 C0
    have hcs := box (fun W' (hc : Calm W5 W') => (⟨cell_of (heap_calm hc A5.out) 0, cell_of (heap_calm hc A5.out) 1, cell_of (heap_calm hc A5.out) 2, cell_of (heap_calm hc A5.out) 3, cell_of (heap_calm hc A5.out) 4, cell_of (heap_calm hc A5.out) 5, cell_of (heap_calm hc A5.out) 6, cell_of (heap_calm hc A5.out) 7, cell_of (heap_calm hc A5.out) 8, cell_of (heap_calm hc A5.out) 9⟩ : MsgCells W' W.heap.size m (.slice ka m.keys.length kcap)))
    have hla := heap_lt A5.out
    obtain ⟨a0, a1, a2, a3, a4, a5, a6, a7, a8, a9⟩ := hcs.out W5 (Calm.refl _)
    have Sm := box (fun W' (hc : Calm W5 W') => (Sa.out.calm C5.out).calm hc)
    go_region_held3 (fun w' => MsgCells w' W.heap.size m (.slice ka m.keys.length kcap)) (first | go_keep | exact hcs.out _ (by (repeat' (first | (with_reducible exact Calm.refl _) | (with_reducible assumption) | (with_reducible refine Calm.drew ?_) | (with_reducible refine Calm.alloc ?_ _) | (with_reducible refine Calm.trans ?_ (by assumption)))))) (first
      | (go_at_call 33; refine (SyncNil_any _).mono ?_; rintro e w7 ⟨rfl, rfl⟩)
      | (go_at_call 30; refine (SizeNil_any 0 _).mono ?_; rintro e w7 ⟨rfl, rfl⟩)
      | (go_at_call 31; refine (BeginNil_any _).mono ?_; rintro e w7 ⟨rfl, rfl⟩)
      | (go_at_call 27; refine (EndNil_any _).mono ?_; rintro e w7 ⟨rfl, rfl⟩)
      | (go_at_call 46; refine (SyncedNil_any _).mono ?_; rintro e w7 ⟨rfl, rfl⟩)
      | (go_at_call 53; refine (LastNil_any _).mono ?_; rintro e w7 ⟨rfl, rfl⟩)
      | (go_at_call 36; refine (IdsNil_any 0 _).mono ?_; rintro e w7 ⟨rfl, rfl⟩)
      | (go_at_call 28; refine (CostNil_any m _ _ (Sm.out _ (by (repeat' (first | (with_reducible exact Calm.refl _) | (with_reducible assumption) | (with_reducible refine Calm.drew ?_) | (with_reducible refine Calm.alloc ?_ _) | (with_reducible refine Calm.trans ?_ (by assumption))))))).mono ?_; rintro e w8 ⟨rfl, hc8⟩))
    have C8 := box (C5.out.trans (show Calm W5 w8 by (repeat' (first | (with_reducible exact Calm.refl _) | (with_reducible assumption) | (with_reducible refine Calm.drew ?_) | (with_reducible refine Calm.alloc ?_ _) | (with_reducible refine Calm.trans ?_ (by assumption))))))
    clear hc8 hcs Sm a0 a1 a2 a3 a4 a5 a6 a7 a8 a9 hla A5 C5 Sa Za Wa
    go_wp2_with fail
    refine (New_ok w8 10000).mono ?_
    rintro e w9 ⟨p, F9, rfl, hd9, hc9, hF9⟩
    have hopen := box (open_new (W := W) 10000 (by decide) hd9 HT.out (C8.out.trans hc9) (fun b hb => Nat.le_trans C8.out.size (hF9 b hb)))
    clear hd9 hc9 hF9
    go_wp2_with fail
    refine hopen.out.mono ?_
    rintro e w10 ⟨t, S, G, rfl, hL, _, hps, hst⟩
    obtain ⟨hok4, hsz4⟩ := cancel_ok hat.1 hat.2
    have hput := rPut_any (cancelM at_) (.slice none 0 0) w10 (.inl ⟨rfl, none, 0, rfl⟩) hok4.1
    have hpE : putS RightP (cancelM at_) = (recB (cancelM at_), 0) := by unfold putS; rw [if_neg (fun h => h hok4.1), if_neg hok4.2]
    rw [hpE] at hput
    simp only at hput
    obtain ⟨ib, hib⟩ : ∃ ib, recB (cancelM at_) = ib := ⟨_, rfl⟩
    rw [hib] at hput hsz4
    have Hput := box hput
    have Hps := box hps
    have Hst := box hst
    have HL := box hL
    clear hput hpE hib hok4 hopen hL hps hst
    go_wp2_with fail
    refine Hput.out.mono ?_
    rintro e w11 ⟨rfl, hc11⟩
    have HL11 := box (HL.out.calm hc11)
    have hok1 := box (holder_ok hsz4)
    have hf0 : S.R.fin = 0 := by have := HL.out.fin; omega
    obtain ⟨g1, g2, g3, g4⟩ := one_id (e := S.R.fin) hok1.out (by omega)
    have hrb := recB_bounds hok1.out.1 hok1.out.2
    have hap := HL11.out.append (by decide) ⟨1, 0, 0, 0, 0, 0, ⟨#[97]⟩, ⟨#[]⟩, ib, []⟩ (.slice none 0 0) ⟨.inl ⟨rfl, none, 0, rfl⟩, (fun s hs => by cases hs), Nat.zero_le _, by show ib.size ≤ _; omega⟩
    obtain ⟨m1, hm1⟩ : ∃ m1 : MsgS, m1 = ⟨1, 0, 0, 0, 0, 0, ⟨#[97]⟩, ⟨#[]⟩, ib, []⟩ := ⟨_, rfl⟩
    have Hap := box hap
    have hs0 : S.D.size = 0 := by have := HL.out.size; omega
    clear hap hc11 HL
    go_wp2_with fail
    refine Hap.out.mono ?_
    rintro e w12 (⟨a1, _⟩ | ⟨a1, a2, _⟩ | ⟨a1, a2, rfl, S1, G1, hD1, hL1, hS1⟩)
    · exact absurd hok1.out a1
    · exact absurd a2 (by rw [g3]; omega)
    have hrec := HL11.out.recs hD1
    have hr0 : S.recs = [] := by show tp.recs S.R.start S.ps = []; rw [Hps.out]; rfl
    rw [hr0, g2, hf0] at hrec
    have hst1 : S1.R.start = 0 := by rw [hD1.kin.start]; exact Hst.out
    have hfin1 := hD1.fin
    have Hid := box (show idP S.R.fin ⟨1, 0, 0, 0, 0, 0, ⟨#[97]⟩, ⟨#[]⟩, ib, []⟩ = 0 from by rw [g2]; exact hf0)
    rw [Hid.out]
    have hfl : S1.R.fin ≤ 321 := by omega
    have L1 := box hL1
    have Hrec := box hrec
    have Hst1 := box hst1
    clear hrec hr0 hst1 hfin1 hL1 hS1 hD1 a1 a2 Hap g1 g2 g3 g4 hrb hs0 hf0 hm1 m1 hsz4 Hput Hps Hst hok1 HL11 Hid
    go_wp2_with fail
    go_loopw [21] (fun nv wr => ∃ k : Nat, 1 ≤ k ∧ k ≤ max 1 S1.R.fin ∧ nv = .int .i64 (k : Int) ∧ Box (Lt W t p 10000 1 S1 G1 wr)) (fun nv _ => S1.R.fin - (intOf nv).toNat)
    case atStart => exact ⟨1, Nat.le_refl _, by omega, rfl, L1⟩
    case round =>
      obtain ⟨k, hk1, hk, rfl, HL⟩ := hrel
      have hend := HL.out.end_
      go_wp2_with fail
      refine hend.mono ?_
      rintro e w13 ⟨rfl, rfl⟩
      by_cases hkl : k < S1.R.fin
      · have hno := box (show ¬ (0 ≤ (k : Int) ∧ (k : Int) < S1.R.start) from by rw [Hst1.out]; omega)
        have hno2 := box (show ¬ ∃ x ∈ S1.recs, (x.1 : Int) = (k : Int) from by
          rw [Hrec.out]
          rintro ⟨x, hx, e⟩
          simp at hx
          subst hx
          simp only at e
          omega)
        have hrd := box (HL.out.read_ k)
        clear hend
        go_wp2_with fail
        refine hrd.out.mono ?_
        rintro e w14 ⟨hc14, ⟨q1, q2, _⟩ | ⟨q1, q2, rfl⟩ | ⟨x, q1, q2, _⟩⟩
        · exact absurd ⟨q1, q2⟩ hno.out
        · have HL2 := box (HL.out.calm hc14)
          have HL3 := box (HL2.out.calm ((Calm.refl w14).alloc (.cells zeroA 62)))
          clear hc14 q1 q2 hrd hno hno2
          unfold zeroA
          go_wp2_with fail
          go_roundw
          case rel => exact ⟨k + 1, by omega, by omega, by go_num, HL3⟩
          case measure => simp [intOf]; omega
        · exact absurd ⟨x, q1, q2⟩ hno2.out
      · have hids := box (HL.out.ids_ (by decide) 0)
        clear hend
        go_wp2_with fail
        refine hids.out.mono ?_
        have hl1 : (fromL S1.recs 0).length = 1 := by rw [Hrec.out]; rfl
        rintro e w14 ⟨a, cap, rfl, _, hc14⟩
        rw [hl1]
        have C14 := box (HL.out.owns.trans hc14)
        clear hc14 hids hl1
        go_wp2_with fail
        go_ret
        exact ⟨rfl, C14.out⟩
end Go.Proofs.YtjpokaifbnkmhaaGreatDoor.tp
