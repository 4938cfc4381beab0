/- Lemmas for this claim. -/
import Derived.Stop.LaidErr
import Derived.Test.YtjpokaifbnkmhaaGreatDoorPk36
namespace Go.Proofs.YtjpokaifbnkmhaaGreatDoor.tp
open Go.ChangeShapes Go.WideShapes Go.ChangeAt Go.RowKit Go.ChangeMaps Go.MapKept
open Go.Proofs.YtjpokaifbnkmhaaGreatDoor.rc Go.Proofs.YtjpokaifbnkmhaaGreatDoor.oc Go.Proofs.YtjpokaifbnkmhaaGreatDoor.cr Go.Proofs.YtjpokaifbnkmhaaGreatDoor.dk Go.Proofs.YtjpokaifbnkmhaaGreatDoor.sg
theorem id_facts {e : Nat} {m : MsgS} (h : okM m) (he : e % 1024 = 0 ∨ e % 1024 + 3 ≤ 1024) : e ≤ idP e m ∧ idP e m + (recB m).size = e + costP e m ∧ idP e m / 1024 = (idP e m + (recB m).size - 1) / 1024 ∧ 7 ≤ (recB m).size ∧ (recB m).size ≤ 321 := by
  have hb := recB_bounds h.1 h.2
  have hl := laid_len (m := m) he
  have hc : costP e m = (flat (laidP e m)).length := by unfold costP; rw [if_pos h]
  rw [hc, hl]
  unfold idP
  by_cases hg : goesIn e (recB m).size
  · rw [if_pos hg, if_pos hg]
    unfold goesIn roomAt at hg
    refine ⟨Nat.le_refl _, rfl, ?_, hb.1, hb.2⟩
    omega
  · rw [if_neg hg, if_neg hg]
    have := behind_fill e
    unfold roomAt at this ⊢
    refine ⟨by omega, by omega, by omega, hb.1, hb.2⟩
theorem size_here {L : List (Nat × MsgS)} {x : Nat × MsgS} (hr : Rises (L ++ [x])) : sizeOf' (L ++ [x]) (x.1 : Int) = (recB x.2).size := by
  unfold sizeOf'
  rw [rec_mem hr (List.mem_append_right _ List.mem_cons_self)]
theorem fair_of {w : World} {m : MsgS} {kv : Value} (hk : StrsAt w kv m.keys) (hz : MsgZ m) (hs : Small m) : Fair w m kv :=
  ⟨hk, hz.2.2.2.2.1, by have := hs.2.2.2.1; omega, by have := hs.1; omega⟩
abbrev MsgCells (w : World) (b : Nat) (m : MsgS) (kv : Value) : Prop := w.cell? ⟨b, 0, none⟩ = some (.int .i64 m.kind) ∧ w.cell? ⟨b, 1, none⟩ = some (.int .i64 m.queue) ∧ w.cell? ⟨b, 2, none⟩ = some (.int .i64 m.due) ∧ w.cell? ⟨b, 3, none⟩ = some (.int .i64 m.retry) ∧ w.cell? ⟨b, 4, none⟩ = some (.int .i64 m.ref) ∧ w.cell? ⟨b, 5, none⟩ = some (.int .i64 m.born) ∧ w.cell? ⟨b, 6, none⟩ = some (.string m.topic) ∧ w.cell? ⟨b, 7, none⟩ = some (.string m.tag) ∧ w.cell? ⟨b, 8, none⟩ = some (.string m.body) ∧ w.cell? ⟨b, 9, none⟩ = some kv
structure Il (W : World) (t p c k : Nat) (z : Int) (w : World) : Prop where
  at_ : ∃ S G, Lt W t p c k S G w ∧ z < (S.R.fin : Int) + (if z < 0 then 1 else 0)
  lo : -1 ≤ z
set_option maxRecDepth 100000 in
set_option maxHeartbeats 16000000 in
theorem ids.walk (W : World) (ht : Tab W) (v : Value) (l : List MsgS) (rv : RowsAt MsgR 10 W v l) :
    Calls Tryz.prog 4 #[v] W fun e W' => e = .returned (.bool true) ∧ Calm W W' := by
  have Rv := box rv
  obtain ⟨la, lcap, rfl, hll, hle⟩ := RowsAt.msgs rv
  have Hle := box hle
  have haw := box (awake_any W ht)
  have HT := box ht
  unfold maxLen at hll
  clear ht rv hle
  go_enter Tryz.func4, Tryz.ntmps4
  go_wp2_with fail
  refine haw.out.mono ?_
  rintro e w1 ⟨rfl, hc1⟩
  have C1 := box hc1
  clear hc1 haw
  by_cases h1 : 80 < l.length
  · have t1 : decide ((80 : Int) < (l.length : Int)) = true := decide_eq_true (by omega)
    go_wp2_with fail
    go_ret
    exact ⟨rfl, C1.out⟩
  have t1 : decide ((80 : Int) < (l.length : Int)) = false := decide_eq_false (by omega)
  have hl80 : l.length ≤ 80 := by omega
  clear h1
  have hgr := box (GreatL_any _ l w1 (Rv.out.calm MsgR.lasts C1.out))
  go_wp2_with fail
  refine hgr.out.mono ?_
  rintro e w2 ⟨g, rfl, hc2, hsm⟩
  have C2 := box (C1.out.trans hc2)
  cases g
  case true =>
    clear hc2 hgr hsm
    go_wp2_with fail
    go_ret
    exact ⟨rfl, C2.out⟩
  have Hsm := box (hsm rfl)
  clear hc2 hgr hsm
  go_wp2_with fail
  refine (New_ok w2 1048576).mono ?_
  rintro e w3 ⟨p, F3, rfl, hd3, hc3, hF3⟩
  have hopen := box (open_new (W := W) 1048576 (by decide) hd3 HT.out (C2.out.trans hc3) (fun b hb => Nat.le_trans C2.out.size (hF3 b hb)))
  clear hd3 hc3 hF3
  go_wp2_with fail
  refine hopen.out.mono ?_
  rintro e w4 ⟨t, S, G, rfl, hL, _, _, _⟩
  have I4 := box (⟨⟨S, G, hL, by rw [if_pos (by decide)]; omega⟩, Int.le_refl _⟩ : Il W t p 1048576 0 (-1) w4)
  clear hL hopen t1
  go_wp2_with fail
  go_loopw [5, 31] (fun lv iv wr => ∃ (k : Nat) (z : Int), k ≤ l.length ∧ lv = .int .i64 z ∧ iv = .int .i64 (k : Int) ∧ Box (Il W t p 1048576 k z wr)) (fun _ iv _ => l.length - (intOf iv).toNat)
  case atStart => exact ⟨0, -1, Nat.zero_le _, rfl, rfl, I4⟩
  case round =>
    obtain ⟨k, z, hk, rfl, rfl, HI⟩ := hrel
    obtain ⟨⟨S, G, hL, hz⟩, hlo⟩ := HI.out
    have hown := hL.owns
    have HO := box hown
    by_cases hkl : k < l.length
    · obtain ⟨eb, eoff, kv, rfl, heb, hec, hks, hmz⟩ := Hle.out k hkl
      have hsm := Hsm.out l[k] (List.getElem_mem hkl)
      obtain ⟨⟨kd, q, du, rt, rf, bn, tp_, tg, bd, ks⟩, hm⟩ : ∃ m, l[k] = m := ⟨_, rfl⟩
      rw [hm] at hec hks hmz hsm
      have c0 := (hown.cell (p := ⟨eb, eoff + k * 10, none⟩) heb).trans (hec 0 (by decide))
      have c1 := (hown.cell (p := ⟨eb, eoff + k * 10 + 1, none⟩) heb).trans (hec 1 (by decide))
      have c2 := (hown.cell (p := ⟨eb, eoff + k * 10 + 2, none⟩) heb).trans (hec 2 (by decide))
      have c3 := (hown.cell (p := ⟨eb, eoff + k * 10 + 3, none⟩) heb).trans (hec 3 (by decide))
      have c4 := (hown.cell (p := ⟨eb, eoff + k * 10 + 4, none⟩) heb).trans (hec 4 (by decide))
      have c5 := (hown.cell (p := ⟨eb, eoff + k * 10 + 5, none⟩) heb).trans (hec 5 (by decide))
      have c6 := (hown.cell (p := ⟨eb, eoff + k * 10 + 6, none⟩) heb).trans (hec 6 (by decide))
      have c7 := (hown.cell (p := ⟨eb, eoff + k * 10 + 7, none⟩) heb).trans (hec 7 (by decide))
      have c8 := (hown.cell (p := ⟨eb, eoff + k * 10 + 8, none⟩) heb).trans (hec 8 (by decide))
      have c9 := (hown.cell (p := ⟨eb, eoff + k * 10 + 9, none⟩) heb).trans (hec 9 (by decide))
      simp only [List.getElem?_toArray, List.getElem?_cons_zero, List.getElem?_cons_succ] at c0 c1 c2 c3 c4 c5 c6 c7 c8 c9
      have hlt := Nat.lt_of_lt_of_le heb hown.size
      have hfair := fair_of (m := ⟨kd, q, du, rt, rf, bn, tp_, tg, bd, ks⟩) (hks.calm hown) hmz hsm
      obtain ⟨ka, kcap, rfl, _⟩ := (hks.calm hown).uni
      clear hks hmz hsm hec
      obtain ⟨wa, hwa⟩ : ∃ wa, wr.alloc (.cells (msgA ⟨kd, q, du, rt, rf, bn, tp_, tg, bd, ks⟩ (.slice ka ks.length kcap)) 62) = wa := ⟨_, rfl⟩
      have Ja := box (show wa.heap[wr.heap.size]? = some (.cells (msgA ⟨kd, q, du, rt, rf, bn, tp_, tg, bd, ks⟩ (.slice ka ks.length kcap)) 62 (0, 0)) by rw [← hwa]; exact heap_new wr _)
      have Ca := box (show Calm wr wa by rw [← hwa]; exact (Calm.refl wr).alloc _)
      have HLa := box (hL.calm Ca.out)
      have Hn := box (show ¬ G wr.heap.size from fun e => Nat.lt_irrefl _ (hL.lt _ e))
      have Hfa := box (hfair.calm Ca.out)
      clear hL hfair HI hown
      go_wp2_with fail
      have hcs := box (fun W' (hc : Calm wa W') => (⟨cell_of (heap_calm hc Ja.out) 0, cell_of (heap_calm hc Ja.out) 1, cell_of (heap_calm hc Ja.out) 2, cell_of (heap_calm hc Ja.out) 3, cell_of (heap_calm hc Ja.out) 4, cell_of (heap_calm hc Ja.out) 5, cell_of (heap_calm hc Ja.out) 6, cell_of (heap_calm hc Ja.out) 7, cell_of (heap_calm hc Ja.out) 8, cell_of (heap_calm hc Ja.out) 9⟩ : MsgCells W' wr.heap.size ⟨kd, q, du, rt, rf, bn, tp_, tg, bd, ks⟩ (.slice ka ks.length kcap)))
      have dlt := heap_lt Ja.out
      obtain ⟨d0, d1, d2, d3, d4, d5, d6, d7, d8, d9⟩ := hcs.out wa (Calm.refl _)
      clear c0 c1 c2 c3 c4 c5 c6 c7 c8 c9
      go_region_held3 (fun w' => MsgCells w' wr.heap.size ⟨kd, q, du, rt, rf, bn, tp_, tg, bd, ks⟩ (.slice ka ks.length kcap)) (first | go_keep | exact hcs.out _ (by (repeat' (first | (with_reducible exact Calm.refl _) | (with_reducible assumption) | (with_reducible refine Calm.drew ?_) | (with_reducible refine Calm.alloc ?_ _) | (with_reducible refine Calm.trans ?_ (by assumption)))))) (first
        | (go_at_call 27; refine ((HLa.out.calm (by (repeat' (first | (with_reducible exact Calm.refl _) | (with_reducible assumption) | (with_reducible refine Calm.drew ?_) | (with_reducible refine Calm.alloc ?_ _) | (with_reducible refine Calm.trans ?_ (by assumption)))))).end_).mono ?_; rintro e w5 ⟨rfl, rfl⟩)
        | (go_at_call 28; refine ((HLa.out.calm (by (repeat' (first | (with_reducible exact Calm.refl _) | (with_reducible assumption) | (with_reducible refine Calm.drew ?_) | (with_reducible refine Calm.alloc ?_ _) | (with_reducible refine Calm.trans ?_ (by assumption)))))).cost ⟨kd, q, du, rt, rf, bn, tp_, tg, bd, ks⟩ _ (Hfa.out.calm (by (repeat' (first | (with_reducible exact Calm.refl _) | (with_reducible assumption) | (with_reducible refine Calm.drew ?_) | (with_reducible refine Calm.alloc ?_ _) | (with_reducible refine Calm.trans ?_ (by assumption))))))).mono ?_; rintro e w6 ⟨rfl, hc6⟩))
      have HC6 := box (show Calm wa w6 by (repeat' (first | (with_reducible exact Calm.refl _) | (with_reducible assumption) | (with_reducible refine Calm.drew ?_) | (with_reducible refine Calm.alloc ?_ _) | (with_reducible refine Calm.trans ?_ (by assumption)))))
      obtain ⟨m, hmE⟩ : ∃ m : MsgS, (⟨kd, q, du, rt, rf, bn, tp_, tg, bd, ks⟩ : MsgS) = m := ⟨_, rfl⟩
      have HL6 := box (HLa.out.calm HC6.out)
      have hap := HL6.out.append (by omega) ⟨kd, q, du, rt, rf, bn, tp_, tg, bd, ks⟩ _ (Hfa.out.calm HC6.out)
      have Hap := box hap
      clear hap hcs d0 d1 d2 d3 d4 d5 d6 d7 d8 d9 hc6
      obtain ⟨d0, d1, d2, d3, d4, d5, d6, d7, d8, d9⟩ := ‹MsgCells w6 _ _ _›
      have dlt6 : wr.heap.size < w6.heap.size := Nat.lt_of_lt_of_le dlt HC6.out.size
      have Hez := box HL6.out.end_ok
      have hfin := HL6.out.fin
      have hsz := HL6.out.size
      have hcl := cost_le S.R.fin ⟨kd, q, du, rt, rf, bn, tp_, tg, bd, ks⟩
      have Hris := box HL6.out.rises
      have Hcz := box (show ¬ okM ⟨kd, q, du, rt, rf, bn, tp_, tg, bd, ks⟩ → costP S.R.fin ⟨kd, q, du, rt, rf, bn, tp_, tg, bd, ks⟩ = 0 from fun h => by unfold costP; rw [if_neg h])
      obtain ⟨cs, hcs⟩ : ∃ cs, costP S.R.fin ⟨kd, q, du, rt, rf, bn, tp_, tg, bd, ks⟩ = cs := ⟨_, rfl⟩
      have Hcs := box hcs
      rw [hcs] at Hcz hcl ⊢
      clear hcs
      go_wp2_with fail
      refine Hap.out.mono ?_
      clear Hap d0 d1 d2 d3 d4 d5 d6 d7 d8 d9
      rintro e w7 (⟨a1, rfl, G7, hL7, hS7⟩ | ⟨a1, a2, _⟩ | ⟨a1, a2, rfl, S7, G7, hD7, hL7, hS7⟩)
      · have hc0 := Hcz.out a1
        subst hc0
        have Hnx := box (⟨⟨S, G7, hL7, hz⟩, hlo⟩ : Il W t p 1048576 (k + 1) z w7)
        have hend := box hL7.end_
        clear hL7 hS7 a1
        go_wp2_with fail
        refine hend.out.mono ?_
        rintro e w8 ⟨rfl, rfl⟩
        go_wp2_with fail
        go_roundw
        case rel => exact ⟨k + 1, z, by omega, rfl, by go_num, Hnx⟩
        case measure => simp [intOf]; omega
      · exact absurd a2 (by rw [Hcs.out]; omega)
      · obtain ⟨f1, f2, f3, f4, f5⟩ := id_facts a1 Hez.out
        have hrec := HL6.out.recs hD7
        have hf7 := hD7.fin
        rw [Hcs.out] at f2 hf7
        have hszT := hL7.size_ (idP S.R.fin ⟨kd, q, du, rt, rf, bn, tp_, tg, bd, ks⟩ : Int)
        rw [hrec, size_here (x := (idP S.R.fin ⟨kd, q, du, rt, rf, bn, tp_, tg, bd, ks⟩, ⟨kd, q, du, rt, rf, bn, tp_, tg, bd, ks⟩)) (hrec ▸ hL7.rises)] at hszT
        have hend := hL7.end_
        rw [hf7, Int.natCast_add] at hend
        obtain ⟨sz, hsz7⟩ : ∃ sz, (recB ⟨kd, q, du, rt, rf, bn, tp_, tg, bd, ks⟩).size = sz := ⟨_, rfl⟩
        obtain ⟨id, hid⟩ : ∃ id, idP S.R.fin ⟨kd, q, du, rt, rf, bn, tp_, tg, bd, ks⟩ = id := ⟨_, rfl⟩
        simp only at hszT
        rw [hsz7] at f2 f3 f4 f5 hszT
        rw [hid] at f1 f2 f3 hszT ⊢
        have Hnx := box (⟨⟨S7, G7, hL7, by rw [hf7, if_neg (by omega)]; omega⟩, by omega⟩ : Il W t p 1048576 (k + 1) (id : Int) w7)
        have HszT := box hszT
        have Hend := box hend
        have hzid : z < (id : Int) := by split at hz <;> omega
        have g1 : decide ((id : Int) ≤ z) = false := decide_eq_false (by omega)
        have g2 : ((sz : Int) == 0) = false := by rw [beq_eq_false_iff_ne]; omega
        have g3 : decide ((id : Int) < (S.R.fin : Int)) = false := decide_eq_false (by omega)
        clear hL7 hS7 a1 hszT hend hD7 hrec hsz7 hid hf7
        go_wp2_with fail
        refine HszT.out.mono ?_
        rintro e w8 ⟨rfl, rfl⟩
        go_wp2_with fail
        refine Hend.out.mono ?_
        rintro e w9 ⟨rfl, rfl⟩
        go_wp2_with fail
        refine Hend.out.mono ?_
        rintro e w9 ⟨rfl, rfl⟩
        go_wp2_with fail
        go_roundw
        case rel => exact ⟨k + 1, id, by omega, rfl, by go_num, Hnx⟩
        case measure => simp [intOf]; omega
    · have he : k = l.length := by omega
      subst he
      go_wp2_with fail
      go_ret
      exact ⟨rfl, HO.out⟩
end Go.Proofs.YtjpokaifbnkmhaaGreatDoor.tp

namespace Go.Proofs.YtjpokaifbnkmhaaGreatDoor.tp
open Go.ChangeShapes Go.WideShapes Go.ChangeAt Go.RowKit Go.ChangeMaps Go.MapKept
open Go.Proofs.YtjpokaifbnkmhaaGreatDoor.rc Go.Proofs.YtjpokaifbnkmhaaGreatDoor.oc Go.Proofs.YtjpokaifbnkmhaaGreatDoor.cr Go.Proofs.YtjpokaifbnkmhaaGreatDoor.dk Go.Proofs.YtjpokaifbnkmhaaGreatDoor.sg
section
variable {W w w' : World} {t p n r sb mb c m k : Nat} {D D' E : DiskS} {R R' : RowS} {L : List (Nat × MsgS)} {last : Int} {F F' G G' : Nat → Prop} {v v' iv : Value} {S S' : TS}
theorem TpIn.keep {B : Nat → Prop} (h : TpIn W w t p n r sb mb D R L last F v iv) (hK : Keeps B w w') (hB : ∀ b, tfoot t r sb mb F v iv b → ¬ B b) (hc : Calm W w') : TpIn W w' t p n r sb mb D R L last F v iv :=
  ⟨⟨h.seg.disk.keep hK (fun b hb e => hB b (.inl hb) e), ⟨(hK.block r (heap_lt h.seg.row.at_) (fun e => hB r (.inr (.inl (.inl rfl))) e)).trans h.seg.row.at_, row_same h.seg.row.row (fun g hg' => hK.block g (h.seg.row.row.lt g hg').2 (fun e => hB g (.inr (.inl (.inr hg'))) e)), h.seg.row.ok⟩, h.seg.tab, hc, h.seg.fW, h.seg.rW, h.seg.vW⟩,
   (hK.block t (heap_lt h.obj) (hB t (.inr (.inr (.inl rfl))))).trans h.obj,
   (hK.block sb (heap_lt h.sums) (hB sb (.inr (.inr (.inr (.inl rfl)))))).trans h.sums,
   row_same h.ids (fun g hg => hK.block g (h.ids.lt g hg).2 (hB g (.inr (.inr (.inr (.inr (.inr hg))))))),
   h.sizes.same (hK.block mb h.sizes.lt (hB mb (.inr (.inr (.inr (.inr (.inl rfl))))))), h.apart, h.mF, h.tW, h.sW, h.mW⟩
theorem Tp.keep {B : Nat → Prop} (h : Tp W t p n S G w) (hK : Keeps B w w') (hB : ∀ b, G b → ¬ B b) (hc : Calm W w') : Tp W t p n S G w' := by
  obtain ⟨r, sb, mb, F, v, iv, h1, h2⟩ := h.at_
  exact ⟨⟨r, sb, mb, F, v, iv, h1.keep hK (fun b hb => hB b ((h2 b).2 hb)) hc, h2⟩, h.holds, h.fit, h.size, h.head, h.born⟩
theorem Lt.keep {B : Nat → Prop} (h : Lt W t p c k S G w) (hK : Keeps B w w') (hB : ∀ b, G b → ¬ B b) (hc : Calm W w') : Lt W t p c k S G w' := by
  obtain ⟨n, h1, h2⟩ := h.tp
  exact ⟨⟨n, h1.keep hK hB hc, h2⟩, h.alive, h.cap, h.fin, h.size, h.files, h.names, h.tight, h.synced⟩
theorem step_not (h : Step G w G' w') {b : Nat} (hb : b < w.heap.size) (hn : ¬ G b) : ¬ G' b := fun e => by
  rcases h.foot b e with h1 | h1
  · exact hn h1
  · omega
theorem cost_tight {e : Nat} {m : MsgS} (h : okM m) (he : e % 1024 = 0 ∨ e % 1024 + 3 ≤ 1024) : costP e m ≤ 650 := by
  have hb := recB_bounds h.1 h.2
  have hl := laid_len (m := m) he
  have hc : costP e m = (flat (laidP e m)).length := by unfold costP; rw [if_pos h]
  rw [hc, hl]
  by_cases hg : goesIn e (recB m).size
  · rw [if_pos hg]; omega
  · rw [if_neg hg]
    unfold goesIn at hg
    omega
abbrev Rq := Nat × MsgS × Value
def encR (x : Rq) : Value × Value := (.int .i64 (x.1 : Int), .agg (msgA x.2.1 x.2.2))
def numR (x : Rq) : Nat × MsgS := (x.1, x.2.1)
structure Dq (W : World) (t p mm k : Nat) (S : TS) (G : Nat → Prop) (A : List Rq) (iv : Value) (w : World) : Prop where
  lt : Lt W t p 1048576 k S G w
  recs : S.recs = A.map numR
  start : S.R.start = 0
  fin : S.R.fin ≤ 650 * k
  map : MapIs w mm (.int .i64) (A.map encR)
  mG : ¬ G mm
  mW : W.heap.size ≤ mm
  ids : w.ownsRow W.heap.size 3 1 iv A.length (intN (A.map (·.1)))
  idG : ∀ b, iv.ownBlock = some b → ¬ G b
  msgs : ∀ x ∈ A, StrsAt W x.2.2 x.2.1.keys ∧ x.2.1.keys.length ≤ 1000000
  few : A.length ≤ k
variable {mm : Nat} {A : List Rq}
theorem Dq.calm (h : Dq W t p mm k S G A iv w) (hc : Calm w w') : Dq W t p mm k S G A iv w' := ⟨h.lt.calm hc, h.recs, h.start, h.fin, h.map.calm hc, h.mG, h.mW, own_calm h.ids hc, h.idG, h.msgs, h.few⟩
theorem Dq.still (h : Dq W t p mm k S G A iv w) (hL : Lt W t p 1048576 (k + 1) S G' w') (hS : Step G w G' w') : Dq W t p mm (k + 1) S G' A iv w' :=
  ⟨hL, h.recs, h.start, by have := h.fin; omega, h.map.same (hS.keeps.block mm h.map.lt h.mG), step_not hS h.map.lt h.mG, h.mW,
    row_same h.ids (fun g hg => hS.keeps.block g (h.ids.lt g hg).2 (h.idG g hg)), fun b hb => step_not hS (h.ids.lt b hb).2 (h.idG b hb), h.msgs, by have := h.few; omega⟩
theorem Dq.added {m : MsgS} {kv : Value} (h : Dq W t p mm k S G A iv w) (hk : k ≤ 500) (hd : TpDone S m S') (hm : okM m) (hL : Lt W t p 1048576 (k + 1) S' G' w') (hS : Step G w G' w') (hkv : StrsAt W kv m.keys) (hkl : m.keys.length ≤ 1000000) :
    ∃ o iv2 w2, (Instr.mapUpdate 68 (.map (some mm)) (.int .i64 (idP S.R.fin m : Int)) (.agg (msgA m kv))).run Tryz.prog w' = .ok () (setBlock w' mm o) ∧
      (Builtin.append_ #[69, 69] 69 #[iv, .slice (some ⟨(setBlock w' mm o).heap.size, 0, none⟩) 1 1]).run Tryz.prog ((setBlock w' mm o).alloc (.cells #[.int .i64 (idP S.R.fin m : Int)] 3)) = .ok iv2 w2 ∧
      (∃ a n c, iv2 = .slice a n c) ∧ Dq W t p mm (k + 1) S' G' (A ++ [(idP S.R.fin m, m, kv)]) iv2 w2 := by
  have hrec := h.lt.recs hd
  have hmap := h.map.same (hS.keeps.block mm h.map.lt h.mG)
  have hids := row_same h.ids (fun g hg => hS.keeps.block g (h.ids.lt g hg).2 (h.idG g hg))
  have hmG := step_not hS h.map.lt h.mG
  have hiG : ∀ b, iv.ownBlock = some b → ¬ G' b := fun b hb => step_not hS (h.ids.lt b hb).2 (h.idG b hb)
  have hfin := h.fin
  have hct := cost_tight hm h.lt.end_ok
  obtain ⟨hid1, hid2, _, _, _⟩ := id_facts hm h.lt.end_ok
  have hrange := recs_range S.ps _ h.lt.fits
  have hends := h.lt.ends
  obtain ⟨o, hupd, hm3⟩ := MapIs.add (P := Tryz.prog) (t := 68) hmap Tryz.underlying68 Tryz.underlying3 (key := .int .i64 (idP S.R.fin m : Int)) (.agg (msgA m kv)) rfl (fun y hy => by
    obtain ⟨x, hx, rfl⟩ := List.mem_map.1 hy
    intro e
    simp only [encR, Value.int.injEq, true_and] at e
    have hx2 : numR x ∈ tp.recs S.R.start S.ps := by
      have : numR x ∈ S.recs := by rw [h.recs]; exact List.mem_map.2 ⟨x, hx, rfl⟩
      exact this
    have h1 := hrange _ hx2
    have h2 := recB_bounds h1.2.2.1 h1.2.2.2.1
    simp only [numR] at h1 h2
    omega)
  have hsz : (setBlock w' mm o).heap.size = w'.heap.size := by simp [setBlock]
  have hK1 : Keeps (fun b => b = mm) w' (setBlock w' mm o) := (Keeps.refl (fun b => b = mm) w').setObj (b := mm) (.inl rfl) o
  have hK2 : Keeps (fun b => b = mm) w' ((setBlock w' mm o).alloc (.cells #[.int .i64 (idP S.R.fin m : Int)] 3)) := hK1.alloc _
  have hne : iv.ownBlock ≠ some mm := fun e => by obtain ⟨c, hc⟩ := own_row hids e; obtain ⟨es, k, hmm, _⟩ := hmap; rw [hc] at hmm; cases hmm
  have hids2 := row_same hids (fun g hg => hK2.block g (hids.lt g hg).2 (fun e => hne (by rw [← e]; exact hg)))
  obtain ⟨iv2, w2, happ, hrow, hk2, hg2⟩ := append_place ((setBlock w' mm o).alloc (.cells #[.int .i64 (idP S.R.fin m : Int)] 3)) iv (A.map (·.1)) (idP S.R.fin m) (setBlock w' mm o).heap.size (by rw [List.length_map]; exact row_zero hids2) (heap_new _ _) (by rw [List.length_map]; have := h.few; omega) 69
  have hK : Keeps (fun b => b = mm ∨ iv.ownBlock = some b) w' w2 := (hK2.mono (fun b _ hb => .inl hb)).trans' ⟨hk2.os, hk2.tape, hk2.output, hk2.size, fun i hi hn => hk2.block i hi (fun e => hn (.inr e))⟩
  have hown := hL.owns
  have hcW : Calm W w2 := Below.trans hown (hK.below hown.size (fun b hb => by
    rcases hb with rfl | hb
    · exact h.mW
    · exact (h.ids.lt b hb).1))
  refine ⟨o, iv2, w2, hupd, happ, row_slice hrow, ⟨hL.keep hK (fun b hb e => by
    rcases e with rfl | e
    · exact hmG hb
    · exact hiG b e hb) hcW, ?_, ?_, ?_, ?_, hmG, h.mW, ?_, ?_, ?_, ?_⟩⟩
  · rw [hrec, h.recs, List.map_append]; rfl
  · rw [hd.kin.start]; exact h.start
  · have := hd.fin; omega
  · rw [List.map_append]
    exact (hm3.calm ((Calm.refl _).alloc _)).same (hk2.block mm (by rw [World.size_alloc]; have := hm3.lt; omega) hne)
  · rw [List.map_append]
    have e1 : (A ++ [(idP S.R.fin m, m, kv)]).length = (A.map (·.1) ++ [idP S.R.fin m]).length := by simp
    rw [e1]
    refine row_base hrow (fun g hg => ?_)
    rcases hg2 g hg with h1 | h1
    · exact (h.ids.lt g h1).1
    · rw [World.size_alloc] at h1; have := hown.size; omega
  · intro b hb e
    rcases hg2 b hb with h1 | h1
    · exact hiG b h1 e
    · rw [World.size_alloc] at h1; have := hL.lt b e; omega
  · intro x hx
    rcases List.mem_append.1 hx with hx | hx
    · exact h.msgs x hx
    · simp only [List.mem_singleton] at hx
      subst hx
      exact ⟨hkv, hkl⟩
  · simp only [List.length_append, List.length_singleton]; have := h.few; omega
end
end Go.Proofs.YtjpokaifbnkmhaaGreatDoor.tp

namespace Go.Proofs.YtjpokaifbnkmhaaGreatDoor.tp
open Go.ChangeShapes Go.WideShapes Go.ChangeAt Go.RowKit Go.ChangeMaps Go.MapKept
open Go.Proofs.YtjpokaifbnkmhaaGreatDoor.rc Go.Proofs.YtjpokaifbnkmhaaGreatDoor.oc Go.Proofs.YtjpokaifbnkmhaaGreatDoor.cr Go.Proofs.YtjpokaifbnkmhaaGreatDoor.dk Go.Proofs.YtjpokaifbnkmhaaGreatDoor.sg
theorem ints_same {w w' : World} {v : Value} {l : List Int} (h : IntsAt w v l) (hs : ∀ b, v.ownBlock = some b → w'.heap[b]? = w.heap[b]?) : IntsAt w' v l := by
  obtain ⟨a, cap, rfl, h2, h4⟩ := h
  refine ⟨a, cap, rfl, h2, fun k hk => ?_⟩
  obtain ⟨b, off, e, hb, hcell⟩ := h4 k hk
  subst e
  have hbb := hs b rfl
  have hb' : b < w'.heap.size := by
    have hx : w'.heap[b]? = some w.heap[b] := by rw [hbb]; exact Array.getElem?_eq_getElem hb
    exact (Array.getElem?_eq_some_iff.1 hx).1
  refine ⟨b, off, rfl, hb', ?_⟩
  rw [← hcell]
  unfold World.cell?
  rw [hbb]
theorem own_ints {w : World} {B : Nat} {v : Value} {l : List Nat} (h : w.ownsRow B 3 1 v l.length (intN l)) (hl : l.length ≤ 1000000) : IntsAt w v (l.map fun (x : Nat) => (x : Int)) := by
  rcases h.2 with ⟨rfl, hn⟩ | ⟨g, cap, cur, rfl, hb, hg, hnc, hcm, hcs, htake⟩
  · have : l = [] := List.eq_nil_of_length_eq_zero hn
    subst this
    exact ⟨none, 0, rfl, ⟨Nat.zero_le _, Nat.zero_le _⟩, fun k hk => absurd hk (Nat.not_lt_zero _)⟩
  · refine ⟨some ⟨g, 0, none⟩, cap, by rw [List.length_map], ⟨by rw [List.length_map]; simp only [maxLen]; omega, by rw [List.length_map]; exact hnc⟩, fun k hk => ⟨g, 0, rfl, heap_lt hg, ?_⟩⟩
    rw [List.length_map] at hk
    have := h.cells (g := g) rfl k (.int .i64 (l[k] : Int)) (by simp [intN, hk])
    rw [add_lit] at this
    rw [Nat.zero_add, this, List.getElem_map]
section
variable {W w w' : World} {t p n r sb mb c m k mm j : Nat} {D D' E : DiskS} {R R' : RowS} {L : List (Nat × MsgS)} {last : Int} {F F' G G' : Nat → Prop} {v v' iv : Value} {S S' : TS} {T A : List Rq} {I : List Int}
structure Dr (W : World) (t p mm j : Nat) (S : TS) (G : Nat → Prop) (T A : List Rq) (I : List Int) (iv : Value) (w : World) : Prop where
  tp : ∃ n, Tp W t p n S G w ∧ n ≤ 1000
  able : Able S.D 1048576 200000
  recs : S.recs = A.map numR
  sub : ∀ x ∈ A, x ∈ T
  start : S.R.start = 1024 * j
  fin : S.R.fin ≤ 52000
  synced : S.R.synced ≤ S.R.fin
  map : MapIs w mm (.int .i64) (T.map encR)
  mG : ¬ G mm
  ids : IntsAt w iv I
  idG : ∀ b, iv.ownBlock = some b → ¬ G b ∧ b < w.heap.size
  msgs : ∀ x ∈ T, StrsAt W x.2.2 x.2.1.keys ∧ x.2.1.keys.length ≤ 1000000
theorem Dr.calm (h : Dr W t p mm j S G T A I iv w) (hc : Calm w w') : Dr W t p mm j S G T A I iv w' := by
  obtain ⟨n, h1, h2⟩ := h.tp
  exact ⟨⟨n, h1.calm hc, h2⟩, h.able, h.recs, h.sub, h.start, h.fin, h.synced, h.map.calm hc, h.mG, h.ids.calm hc, fun b hb => ⟨(h.idG b hb).1, Nat.lt_of_lt_of_le (h.idG b hb).2 hc.size⟩, h.msgs⟩
theorem Dr.owns (h : Dr W t p mm j S G T A I iv w) : Calm W w := by
  obtain ⟨n, h1, _⟩ := h.tp
  exact h1.owns
theorem Dr.others (h : Dr W t p mm j S G T A I iv w) (hS : Step G w G' w') : MapIs w' mm (.int .i64) (T.map encR) ∧ ¬ G' mm ∧ IntsAt w' iv I ∧ ∀ b, iv.ownBlock = some b → ¬ G' b ∧ b < w'.heap.size :=
  ⟨h.map.same (hS.keeps.block mm h.map.lt h.mG), step_not hS h.map.lt h.mG, ints_same h.ids (fun b hb => hS.keeps.block b (h.idG b hb).2 (h.idG b hb).1), fun b hb => ⟨step_not hS (h.idG b hb).2 (h.idG b hb).1, Nat.lt_of_lt_of_le (h.idG b hb).2 hS.keeps.size⟩⟩
theorem Dq.turn (h : Dq W t p mm k S G T iv w) (hk : k ≤ 80) : Dr W t p mm 0 S G T T (T.map fun x => (x.1 : Int)) iv w := by
  obtain ⟨n, h1, h2⟩ := h.lt.tp
  refine ⟨⟨n, h1, by omega⟩, h.lt.able.mono (by omega), h.recs, fun _ hx => hx, by rw [h.start], by have := h.fin; omega, h.lt.synced, h.map, h.mG, ?_, fun b hb => ⟨h.idG b hb, (h.ids.lt b hb).2⟩, h.msgs⟩
  have := own_ints (l := T.map (·.1)) (by rw [List.length_map]; exact h.ids) (by rw [List.length_map]; have := h.few; omega)
  rwa [List.map_map] at this
theorem Dr.ended (h : Dr W t p mm j S G T A I iv w) (h2 : S.R.cnt < 2) : S.R.fin ≤ S.R.start + 1024 := by
  obtain ⟨n, h1, _⟩ := h.tp
  have hok := h1.holds.ok
  have hz := h1.size
  by_cases h0 : S.R.cnt = 0
  · have := hok.none h0; omega
  · have := (hok.fin (by omega)).2
    unfold RowS.stop at this
    have hc : S.R.cnt = 1 := by omega
    rw [hc, hz] at this
    omega
theorem Dr.dropped (h : Dr W t p mm j S G T A I iv w) (h2 : 2 ≤ S.R.cnt) {E : DiskS} {ps1 ps2 : List Pc} (hps : S.ps = ps1 ++ ps2) (hl : (flat ps1).length = 1024) (hn : n ≤ 1000) (hT : Tp W t p n ⟨E, S.R.rest, ps2, S.last⟩ G' w') (hS : Step G w G' w') (ha : Able E 1048576 200000) :
    ∃ A1 A2, A = A1 ++ A2 ∧ (∀ x ∈ A1, x.1 < 1024 * (j + 1)) ∧ (∀ x ∈ A2, 1024 * (j + 1) ≤ x.1) ∧ S.R.start + 1024 ≤ S.R.fin ∧ Dr W t p mm (j + 1) ⟨E, S.R.rest, ps2, S.last⟩ G' T A2 I iv w' := by
  obtain ⟨n0, h1, _⟩ := h.tp
  have hz := h1.size
  have hends := h1.holds.size
  have hf := h1.fit
  rw [hps, fitL_append, hl] at hf
  rw [hps, flat_append, List.length_append, hl] at hends
  have hr : S.recs = tp.recs S.R.start ps1 ++ tp.recs (S.R.start + 1024) ps2 := by
    show tp.recs S.R.start S.ps = _
    rw [hps, recs_append, hl]
  have hA := h.recs.symm.trans hr
  obtain ⟨A1, A2, e1, e2, e3⟩ := List.map_eq_append_iff.1 hA
  have hst := h.start
  obtain ⟨o1, o2, o3, o4⟩ := h.others hS
  refine ⟨A1, A2, e1, fun x hx => ?_, fun x hx => ?_, by omega, ⟨⟨n, hT, hn⟩, ha, ?_, fun x hx => h.sub x (by rw [e1]; exact List.mem_append_right _ hx), ?_, h.fin, ?_, o1, o2, o3, o4, h.msgs⟩⟩
  · have h3 := recs_range ps1 _ hf.1 (numR x) (by rw [← e2]; exact List.mem_map.2 ⟨x, hx, rfl⟩)
    have h4 := recB_bounds h3.2.2.1 h3.2.2.2.1
    simp only [numR] at h3 h4
    omega
  · have h3 := recs_range ps2 _ hf.2 (numR x) (by rw [← e3]; exact List.mem_map.2 ⟨x, hx, rfl⟩)
    simp only [numR] at h3
    omega
  · show tp.recs (S.R.start + S.R.size) ps2 = _
    rw [hz, e3]
  · show S.R.start + S.R.size = _
    omega
  · show max S.R.synced (S.R.start + S.R.size) ≤ S.R.fin
    have := h.synced
    omega
theorem Dr.synced_ (h : Dr W t p mm j S G T A I iv w) {E : DiskS} (hn : n ≤ 1000) (hT : Tp W t p n ⟨E, S.R.clean, S.ps, S.last⟩ G' w') (hS : Step G w G' w') (ha : Able E 1048576 200000) :
    Dr W t p mm j ⟨E, S.R.clean, S.ps, S.last⟩ G' T A I iv w' := by
  obtain ⟨o1, o2, o3, o4⟩ := h.others hS
  exact ⟨⟨n, hT, hn⟩, ha, h.recs, h.sub, h.start, h.fin, Nat.le_refl _, o1, o2, o3, o4, h.msgs⟩
theorem Dr.opened (h : Dr W t p mm j S G T A I iv w) (ht : Tab W) : Calls Tryz.prog 26 #[ptrTo p] w fun e w' => ∃ t' S' G', e = .returned (.tuple #[ptrTo t', .int .i64 0]) ∧ Dr W t' p mm j S' G' T A I iv w' := by
  obtain ⟨n, h1, hn⟩ := h.tp
  obtain ⟨r, sb, mb, F, v, iw, hT, hG⟩ := h1.at_
  have ho := h1.holds.open h.able.alive hT.seg.disk.form
  rw [h1.head, h1.size] at ho
  have hfew := h1.few
  have hfi := h.fin
  have hab := h.able
  refine (Open_any (ps := S.ps) (tl := []) (E := S.D) (R := S.R.anew) (c := 1048576) (m := 200000) w hT.seg.disk ht hT.seg.calm hT.seg.fW (by omega) hab.file (by have := hab.files; omega) ho (by rw [List.append_nil]; exact h1.holds.anew) hab h1.head h1.size rfl h1.fit (.inl rfl) (by omega)).mono ?_
  rintro e w' ⟨t', D', R', last, G', rfl, _, hO⟩
  have hS : Step G w G' w' := ⟨hO.step.keeps.mono (fun b _ hb => (hG b).2 (.inl hb)), fun b hb => by
    rcases hO.step.foot b hb with h2 | h2
    · exact .inl ((hG b).2 (.inl h2))
    · exact .inr h2⟩
  obtain ⟨o1, o2, o3, o4⟩ := h.others hS
  have hst : R'.start = S.R.start := hO.start
  have hfin : R'.fin = S.R.fin := by rw [hO.fin]; exact h1.holds.size.symm
  refine ⟨t', ⟨D', R', S.ps, last⟩, G', rfl, ⟨⟨n, hO.tp, hn⟩, hO.able, ?_, h.sub, hst.trans h.start, by rw [hfin]; exact h.fin, Nat.le_of_eq hO.synced, o1, o2, o3, o4, h.msgs⟩⟩
  show tp.recs R'.start S.ps = _
  rw [hst]; exact h.recs
theorem tail_slice (b off len cap : Nat) (h1 : 1 ≤ len) (hc : len ≤ cap) :
    ∃ a' : Addr, a'.block = b ∧ (∀ W : World, (Instr.slice 69 (.slice (some ⟨b, off, none⟩) len cap) (some (.int .i64 1)) none none).run Tryz.prog W = .ok (.slice (some a') (len - 1) (cap - 1)) W) ∧ (1 < cap → a' = ⟨b, off + 1, none⟩) := by
  have he : Tryz.prog.elem 69 = 3 := by kernel_rfl
  have hz : ∀ w : World, (Go.sizeOf 3).run Tryz.prog w = .ok 1 w := Tryz.sizeOf3
  by_cases h0 : cap = 1
  · refine ⟨⟨b, off, none⟩, rfl, fun W => ?_, fun h => by omega⟩
    have := run_slice_l W 69 (some ⟨b, off, none⟩) len cap (by rw [he]; exact Tryz.underlying69) .i64 1 (by omega) (by omega)
    rw [he, hz] at this
    refine this.trans ?_
    simp [Result.andThen, sliced, Addr.add, h0]
  · refine ⟨⟨b, off + 1, none⟩, rfl, fun W => ?_, fun _ => rfl⟩
    have := run_slice_l W 69 (some ⟨b, off, none⟩) len cap (by rw [he]; exact Tryz.underlying69) .i64 1 (by omega) (by omega)
    rw [he, hz] at this
    refine this.trans ?_
    simp [Result.andThen, sliced, Addr.add, h0]
theorem Dr.tail {i : Int} {b off cap : Nat} (h : Dr W t p mm j S G T A (i :: I) (.slice (some ⟨b, off, none⟩) (I.length + 1) cap) w) :
    ∃ a', (∀ W : World, (Instr.slice 69 (.slice (some ⟨b, off, none⟩) (I.length + 1) cap) (some (.int .i64 1)) none none).run Tryz.prog W = .ok (.slice (some a') I.length (cap - 1)) W) ∧ Dr W t p mm j S G T A I (.slice (some a') I.length (cap - 1)) w ∧ w.cell? ⟨b, off, none⟩ = some (.int .i64 i) ∧ b < w.heap.size := by
  obtain ⟨a, c, h1, ⟨h2, h3⟩, h4⟩ := h.ids
  simp only [List.length_cons, Value.slice.injEq] at h1
  obtain ⟨rfl, _, rfl⟩ := h1
  simp only [List.length_cons] at h2 h3
  obtain ⟨a', e1, e2, e3⟩ := tail_slice b off (I.length + 1) cap (by omega) h3
  obtain ⟨b0, off0, q1, q2, q3⟩ := h4 0 (by simp)
  simp only [Option.some.injEq, Addr.mk.injEq] at q1
  obtain ⟨rfl, rfl, _⟩ := q1
  refine ⟨a', e2, ⟨h.tp, h.able, h.recs, h.sub, h.start, h.fin, h.synced, h.map, h.mG, ⟨some a', cap - 1, rfl, ⟨by omega, by omega⟩, fun k hk => ?_⟩, fun g hg => ?_, h.msgs⟩, by simpa using q3, q2⟩
  · obtain ⟨b1, off1, r1, r2, r3⟩ := h4 (k + 1) (by simp; omega)
    simp only [Option.some.injEq, Addr.mk.injEq] at r1
    obtain ⟨rfl, rfl, _⟩ := r1
    refine ⟨b, off + 1, by rw [e3 (by omega)], r2, ?_⟩
    rw [show off + 1 + k = off + (k + 1) by omega, r3]
    rfl
  · have : g = b := by
      have h5 : some a'.block = some g := hg
      rw [e1] at h5
      exact (Option.some.inj h5).symm
    subst this
    exact h.idG g rfl
theorem Dr.listed (h : Dr W t p mm j S G T A I iv w) : ((fromL S.recs 0).map (·.1)).map (fun (x : Nat) => (x : Int)) = A.map fun x => (x.1 : Int) := by
  have h1 : fromL S.recs 0 = S.recs := List.filter_eq_self.2 (fun x _ => decide_eq_true (Int.natCast_nonneg _))
  rw [h1, h.recs, List.map_map, List.map_map]; rfl
theorem Dr.ints (h : Dr W t p mm j S G T A (A.map fun x => (x.1 : Int)) iv w) {B cap : Nat} {a : Option Addr} (hc : Calm w w') (hl : (fromL S.recs 0).length ≤ 1000000) (hrow : w'.ownsRow B 3 1 (.slice a (fromL S.recs 0).length cap) (fromL S.recs 0).length (intN ((fromL S.recs 0).map (·.1)))) :
    Calls Tryz.prog 35 #[.slice a (fromL S.recs 0).length cap, iv] w' fun e w2 => e = .returned (.bool true) ∧ Calm w' w2 := by
  have h1 := own_ints (l := (fromL S.recs 0).map (·.1)) (by rw [List.length_map]; exact hrow) (by rw [List.length_map]; exact hl)
  rw [h.listed] at h1
  refine (Ints_any _ iv _ _ w' h1 (h.ids.calm hc)).mono ?_
  rintro e w2 ⟨rfl, h2⟩
  exact ⟨by rw [decide_eq_true rfl], h2⟩
theorem Dr.cell {da : Option Addr} {dn dc : Nat} (h : Dr W t p mm j S G T A (A.map fun x => (x.1 : Int)) (.slice da dn dc) w) {i : Nat} (hi : i < A.length) : ∃ b off, da = some ⟨b, off, none⟩ ∧ b < w.heap.size ∧ w.cell? ⟨b, off + i, none⟩ = some (.int .i64 (A[i].1 : Int)) := by
  obtain ⟨a, c, h1, _, h4⟩ := h.ids
  simp only [Value.slice.injEq] at h1
  obtain ⟨rfl, _, rfl⟩ := h1
  obtain ⟨b, off, q1, q2, q3⟩ := h4 i (by rw [List.length_map]; exact hi)
  rw [List.getElem_map] at q3
  exact ⟨b, off, q1, q2, q3⟩
theorem Dr.reads (h : Dr W t p mm j S G T A I iv w) {x : Rq} (hx : x ∈ A) : Calls Tryz.prog 34 #[ptrTo t, .int .i64 (x.1 : Int)] w fun e w' => Calm w w' ∧ ∃ kv, e = .returned (.tuple #[.agg (msgA x.2.1 kv), .int .i64 0]) ∧ StrsAt w' kv x.2.1.keys := by
  obtain ⟨n, hT, hn⟩ := h.tp
  have hm : numR x ∈ S.recs := by rw [h.recs]; exact List.mem_map.2 ⟨x, hx, rfl⟩
  have hrg := recs_range S.ps _ hT.fit (numR x) hm
  have hri := hT.rises
  refine (Read_any (x.1 : Int) w hT h.able.alive).mono ?_
  rintro e w' ⟨hc, ⟨q1, q2, _⟩ | ⟨_, q2, _⟩ | ⟨y, q1, q2, kv, rfl, q3⟩⟩
  · simp only [numR] at hrg; omega
  · exact absurd rfl (q2 _ hm)
  · have h1 := rec_mem hri q1
    have h2 := rec_mem hri hm
    rw [q2] at h1
    have h3 : y = numR x := Option.some.inj (h1.symm.trans h2)
    subst h3
    exact ⟨hc, kv, rfl, q3⟩
theorem Dr.gone (h : Dr W t p mm (j + 1) S G T A I iv w) {k : Nat} (hk : k < 1024 * j + 1024) : Calls Tryz.prog 34 #[ptrTo t, .int .i64 (k : Int)] w fun e w' => Calm w w' ∧ e = .returned (.tuple #[.agg #[.int .i64 0, .int .i64 0, .int .i64 0, .int .i64 0, .int .i64 0, .int .i64 0, .string ⟨#[]⟩, .string ⟨#[]⟩, .string ⟨#[]⟩, .slice none 0 0], .int .i64 14]) := by
  obtain ⟨n, hT, hn⟩ := h.tp
  have hst := h.start
  refine (Read_any (k : Int) w hT h.able.alive).mono ?_
  rintro e w' ⟨hc, ⟨_, _, rfl⟩ | ⟨q1, _⟩ | ⟨y, q1, q2, _⟩⟩
  · exact ⟨hc, rfl⟩
  · exact absurd ⟨by omega, by omega⟩ q1
  · have hrg := recs_range S.ps _ hT.fit y q1
    omega
theorem Dr.hit (h : Dr W t p mm j S G T A I iv w) {x : Rq} (hx : x ∈ A) : ∀ w', Calm w w' → (Instr.lookup 68 (.map (some mm)) (.int .i64 (x.1 : Int)) false).run Tryz.prog w' = .ok (.agg (msgA x.2.1 x.2.2)) w' := fun w' hc =>
  (h.map.calm hc).hit (P := Tryz.prog) Tryz.underlying68 Tryz.underlying3 (key := .int .i64 (x.1 : Int)) (v := .agg (msgA x.2.1 x.2.2)) rfl (List.mem_map.2 ⟨x, h.sub x hx, rfl⟩) false
theorem Dr.same_ (h : Dr W t p mm j S G T A I iv w) {x : Rq} (hx : x ∈ A) {kv : Value} (hw : Calm W w') (hk : StrsAt w' kv x.2.1.keys) : Calls Tryz.prog 37 #[.agg (msgA x.2.1 kv), .agg (msgA x.2.1 x.2.2)] w' fun e w2 => e = .returned (.bool true) ∧ Calm w' w2 := by
  obtain ⟨h1, h2⟩ := h.msgs x (h.sub x hx)
  refine (rSame_any x.2.1 x.2.1 kv x.2.2 w' hk (h1.calm hw) h2 h2).mono ?_
  rintro e w2 ⟨rfl, h3⟩
  exact ⟨by rw [decide_eq_true rfl], h3⟩
end
end Go.Proofs.YtjpokaifbnkmhaaGreatDoor.tp

namespace Go.Proofs.YtjpokaifbnkmhaaGreatDoor.tp
open Go.ChangeShapes Go.WideShapes Go.ChangeAt Go.RowKit Go.ChangeMaps Go.MapKept
open Go.Proofs.YtjpokaifbnkmhaaGreatDoor.rc Go.Proofs.YtjpokaifbnkmhaaGreatDoor.oc Go.Proofs.YtjpokaifbnkmhaaGreatDoor.cr Go.Proofs.YtjpokaifbnkmhaaGreatDoor.dk Go.Proofs.YtjpokaifbnkmhaaGreatDoor.sg
def sliceLen : Value → Nat
  | .slice _ n _ => n
  | _ => 0
set_option maxRecDepth 100000 in
set_option maxHeartbeats 16000000 in
theorem drops.walk (W : World) (ht : Tab W) (v : Value) (l : List MsgS) (rv : RowsAt MsgR 10 W v l) (again : Bool) :
    Calls Tryz.prog 5 #[v, .bool again] W fun e W' => e = .returned (.bool true) ∧ Calm W W' := by
  have Rv := box rv
  obtain ⟨la, lcap, rfl, hll, hle⟩ := RowsAt.msgs rv
  have Hle := box hle
  have haw := box (awake_any W ht)
  have HT := box ht
  unfold maxLen at hll
  clear ht rv hle
  go_enter Tryz.func5, Tryz.ntmps5
  go_wp2_with fail
  refine haw.out.mono ?_
  rintro e w1 ⟨rfl, hc1⟩
  have C1 := box hc1
  clear hc1 haw
  by_cases h1 : 80 < l.length
  · have t1 : decide ((80 : Int) < (l.length : Int)) = true := decide_eq_true (by omega)
    go_wp2_with fail
    go_ret
    exact ⟨rfl, C1.out⟩
  have t1 : decide ((80 : Int) < (l.length : Int)) = false := decide_eq_false (by omega)
  have hl80 : l.length ≤ 80 := by omega
  clear h1
  have hgr := box (GreatL_any _ l w1 (Rv.out.calm MsgR.lasts C1.out))
  go_wp2_with fail
  refine hgr.out.mono ?_
  rintro e w2 ⟨g, rfl, hc2, hsm⟩
  have C2 := box (C1.out.trans hc2)
  cases g
  case true =>
    clear hc2 hgr hsm
    go_wp2_with fail
    go_ret
    exact ⟨rfl, C2.out⟩
  have Hsm := box (hsm rfl)
  clear hc2 hgr hsm
  go_wp2_with fail
  refine (New_ok w2 1048576).mono ?_
  rintro e w3 ⟨p, F3, rfl, hd3, hc3, hF3⟩
  have hopen := box (open_new (W := W) 1048576 (by decide) hd3 HT.out (C2.out.trans hc3) (fun b hb => Nat.le_trans C2.out.size (hF3 b hb)))
  clear hd3 hc3 hF3
  go_wp2_with fail
  refine hopen.out.mono ?_
  rintro e w4 ⟨t, S, G, rfl, hL, _, hps, hst⟩
  have hmk := @run_makeMap Tryz.prog
  have hfin0 := hL.fin
  have Q4 := box ((⟨hL.calm ((Calm.refl w4).alloc (.map #[] 0)), by show tp.recs S.R.start S.ps = []; rw [hps]; rfl, hst, by omega, MapIs.made w4 (.int .i64), fun e => Nat.lt_irrefl _ (hL.lt _ e), hL.owns.size, ⟨by rfl, .inl ⟨rfl, rfl⟩⟩, (fun b hb => by cases hb), (fun x hx => by cases hx), Nat.zero_le _⟩ : Dq W t p w4.heap.size 0 S G [] (.slice none 0 0) (w4.alloc (.map #[] 0))))
  clear hL hopen t1 hps hst hfin0
  go_wp2_with fail
  obtain ⟨mm, hmm⟩ : ∃ mm, w4.heap.size = mm := ⟨_, rfl⟩
  rw [hmm] at Q4 ⊢
  clear hmm hmk
  go_loopw [9, 45] (fun av iv wr => ∃ (k : Nat) (S : TS) (G : Nat → Prop) (A : List Rq), k ≤ l.length ∧ iv = .int .i64 (k : Int) ∧ Box (Dq W t p mm k S G A av wr)) (fun _ iv _ => l.length - (intOf iv).toNat)
  case atStart => exact ⟨0, S, G, [], Nat.zero_le _, rfl, Q4⟩
  case round =>
    clear Q4
    obtain ⟨k, S, G, A, hk, rfl, HQ⟩ := hrel
    have hown := HQ.out.lt.owns
    have HO := box hown
    by_cases hkl : k < l.length
    · obtain ⟨eb, eoff, kv, rfl, heb, hec, hks, hmz⟩ := Hle.out k hkl
      have hsm := Hsm.out l[k] (List.getElem_mem hkl)
      obtain ⟨⟨kd, q, du, rt, rf, bn, tp_, tg, bd, ks⟩, hm⟩ : ∃ m, l[k] = m := ⟨_, rfl⟩
      rw [hm] at hec hks hmz hsm
      have c0 := (hown.cell (p := ⟨eb, eoff + k * 10, none⟩) heb).trans (hec 0 (by decide))
      have c1 := (hown.cell (p := ⟨eb, eoff + k * 10 + 1, none⟩) heb).trans (hec 1 (by decide))
      have c2 := (hown.cell (p := ⟨eb, eoff + k * 10 + 2, none⟩) heb).trans (hec 2 (by decide))
      have c3 := (hown.cell (p := ⟨eb, eoff + k * 10 + 3, none⟩) heb).trans (hec 3 (by decide))
      have c4 := (hown.cell (p := ⟨eb, eoff + k * 10 + 4, none⟩) heb).trans (hec 4 (by decide))
      have c5 := (hown.cell (p := ⟨eb, eoff + k * 10 + 5, none⟩) heb).trans (hec 5 (by decide))
      have c6 := (hown.cell (p := ⟨eb, eoff + k * 10 + 6, none⟩) heb).trans (hec 6 (by decide))
      have c7 := (hown.cell (p := ⟨eb, eoff + k * 10 + 7, none⟩) heb).trans (hec 7 (by decide))
      have c8 := (hown.cell (p := ⟨eb, eoff + k * 10 + 8, none⟩) heb).trans (hec 8 (by decide))
      have c9 := (hown.cell (p := ⟨eb, eoff + k * 10 + 9, none⟩) heb).trans (hec 9 (by decide))
      simp only [List.getElem?_toArray, List.getElem?_cons_zero, List.getElem?_cons_succ] at c0 c1 c2 c3 c4 c5 c6 c7 c8 c9
      have hlt := Nat.lt_of_lt_of_le heb hown.size
      have Hkw := box hks
      have hfair := fair_of (m := ⟨kd, q, du, rt, rf, bn, tp_, tg, bd, ks⟩) (hks.calm hown) hmz hsm
      obtain ⟨ka, kcap, rfl, _⟩ := (hks.calm hown).uni
      clear hks hmz hsm hec
      obtain ⟨wa, hwa⟩ : ∃ wa, wr.alloc (.cells (msgA ⟨kd, q, du, rt, rf, bn, tp_, tg, bd, ks⟩ (.slice ka ks.length kcap)) 62) = wa := ⟨_, rfl⟩
      have Ja := box (show wa.heap[wr.heap.size]? = some (.cells (msgA ⟨kd, q, du, rt, rf, bn, tp_, tg, bd, ks⟩ (.slice ka ks.length kcap)) 62 (0, 0)) by rw [← hwa]; exact heap_new wr _)
      have Ca := box (show Calm wr wa by rw [← hwa]; exact (Calm.refl wr).alloc _)
      have HQa := box (HQ.out.calm Ca.out)
      have Hn := box (show ¬ G wr.heap.size from fun e => Nat.lt_irrefl _ (HQ.out.lt.lt _ e))
      have Hfa := box (hfair.calm Ca.out)
      clear hfair HQ hown
      have d0 := cell_of Ja.out 0
      have d1 := cell_of Ja.out 1
      have d2 := cell_of Ja.out 2
      have d3 := cell_of Ja.out 3
      have d4 := cell_of Ja.out 4
      have d5 := cell_of Ja.out 5
      have d6 := cell_of Ja.out 6
      have d7 := cell_of Ja.out 7
      have d8 := cell_of Ja.out 8
      have d9 := cell_of Ja.out 9
      have dlt := heap_lt Ja.out
      have hap := box (HQa.out.lt.append (by omega) ⟨kd, q, du, rt, rf, bn, tp_, tg, bd, ks⟩ _ Hfa.out)
      have hsz := HQa.out.lt.size
      have hcl := cost_le S.R.fin ⟨kd, q, du, rt, rf, bn, tp_, tg, bd, ks⟩
      go_wp2_with fail
      clear c0 c1 c2 c3 c4 c5 c6 c7 c8 c9
      refine hap.out.mono ?_
      rintro e w7 (⟨a1, rfl, G7, hL7, hS7⟩ | ⟨a1, a2, _⟩ | ⟨a1, a2, rfl, S7, G7, hD7, hL7, hS7⟩)
      · have Hnx := box (HQa.out.still hL7 hS7)
        clear hL7 hS7 a1 hap d0 d1 d2 d3 d4 d5 d6 d7 d8 d9
        go_wp2_with fail
        go_roundw
        case rel => exact ⟨k + 1, S, G7, A, by omega, by go_num, Hnx⟩
        case measure => simp [intOf]; omega
      · exact absurd a2 (by omega)
      · have Hkv := box Hkw
        obtain ⟨o, iv2, w8, hupd, happ, ⟨ia, inn, ic, rfl⟩, hnx⟩ := HQa.out.added (by omega) hD7 a1 hL7 hS7 Hkw.out (by have := Hfa.out.len; exact this)
        obtain ⟨ja, jn, jc, rfl⟩ := row_slice HQa.out.ids
        have J7 := step_block hS7 Ja.out Hn.out
        clear d0 d1 d2 d3 d4 d5 d6 d7 d8 d9 dlt
        have d0 := cell_of J7 0
        have d1 := cell_of J7 1
        have d2 := cell_of J7 2
        have d3 := cell_of J7 3
        have d4 := cell_of J7 4
        have d5 := cell_of J7 5
        have d6 := cell_of J7 6
        have d7 := cell_of J7 7
        have d8 := cell_of J7 8
        have d9 := cell_of J7 9
        have dlt := heap_lt J7
        have Hnx := box hnx
        obtain ⟨id, hid⟩ : ∃ id, idP S.R.fin ⟨kd, q, du, rt, rf, bn, tp_, tg, bd, ks⟩ = id := ⟨_, rfl⟩
        rw [hid] at hupd happ Hnx ⊢
        have Happ := box happ
        clear hL7 hS7 a1 hap hnx happ hD7 hid J7
        go_wp2_with (first | (at_builtin; refine Lib.wpList_append_run _ rfl _ _ _ _ rfl _ _ rfl rfl _ _ Happ.out ?_) | fail)
        go_roundw
        case rel => exact ⟨k + 1, S7, G7, _, by omega, by go_num, Hnx⟩
        case measure => simp [intOf]; omega
    · have he : k = l.length := by omega
      subst he
      have D0 := box (HQ.out.turn (by omega))
      obtain ⟨ja, jn, jc, rfl⟩ := row_slice HQ.out.ids
      clear HQ HO hown hk hkl Rv Hle Hsm
      go_wp2_with fail
      go_loopw [6, 9, 14] (fun tv bv nv wx => ∃ (j t : Nat) (S : TS) (G : Nat → Prop) (A2 : List Rq), tv = ptrTo t ∧ nv = .int .i64 (j : Int) ∧ j ≤ 51 ∧ Box (Dr W t p mm j S G A A2 (A2.map fun x => (x.1 : Int)) bv wx)) (fun _ _ nv _ => 100 - (intOf nv).toNat)
      case atStart => exact ⟨0, t, S, G, A, rfl, rfl, by omega, D0⟩
      case round =>
        clear D0
        obtain ⟨j, t, S, G, AA, rfl, rfl, hj, HD⟩ := hrel
        obtain ⟨ba, bn0, bc, rfl⟩ : ∃ a n c, u9 = .slice a n c := by obtain ⟨a, c, h, _⟩ := HD.out.ids; exact ⟨_, _, _, h⟩
        obtain ⟨n, hT, hn⟩ := HD.out.tp
        have hbeg := box (Begin_any _ hT)
        have hend := box (End_any _ hT)
        have hdrop := box (Drop_any _ hT HD.out.able (by omega) (by have := HD.out.fin; omega))
        have hfin := HD.out.fin
        have hst := HD.out.start
        obtain ⟨st, hstE⟩ : ∃ st, S.R.start = st := ⟨_, rfl⟩
        obtain ⟨fe, hfeE⟩ : ∃ fe, S.R.fin = fe := ⟨_, rfl⟩
        have Hst := box hstE
        have Hfe := box hfeE
        have hbeg2 := box (show Calls Tryz.prog 31 #[ptrTo t] _ fun e w' => e = .returned (.int .i64 (st : Int)) ∧ _ = w' from by have := hbeg.out; rwa [hstE] at this)
        have hend2 := box (show Calls Tryz.prog 27 #[ptrTo t] _ fun e w' => e = .returned (.int .i64 (fe : Int)) ∧ _ = w' from by have := hend.out; rwa [hfeE] at this)
        rw [hstE] at hst
        rw [hfeE] at hfin
        have t1 : decide ((j : Int) < 100) = true := decide_eq_true (by omega)
        clear hT hbeg hend hstE hfeE
        go_wp2_with fail
        refine hbeg2.out.mono ?_
        rintro e w5 ⟨rfl, rfl⟩
        go_wp2_with fail
        refine hend2.out.mono ?_
        rintro e w5 ⟨rfl, rfl⟩
        go_wp2_with fail
        refine hdrop.out.mono ?_
        rintro e w5 (⟨h2, rfl, G5, hT5, hS5⟩ | ⟨h2, rfl, E5, G5, ps1, ps2, hps, hl5, hT5, hS5, ha5, _⟩)
        · have hle := HD.out.ended h2
          rw [Hst.out, Hfe.out] at hle
          have t2 : decide ((fe : Int) ≤ 1024 * (j : Int) + 1024) = true := decide_eq_true (by omega)
          have O5 := box hT5.owns
          clear hT5 hS5
          go_wp2_with fail
          go_ret
          exact ⟨rfl, O5.out⟩
        obtain ⟨A1, A2, hA, hlo, hhi, hle, hD5⟩ := HD.out.dropped h2 hps hl5 hn hT5 hS5 ha5
        rw [Hst.out, Hfe.out] at hle
        rw [Hst.out]
        have hst5 := hD5.start
        have hfe5 : (TS.mk E5 S.R.rest ps2 S.last).R.fin = fe := Hfe.out
        obtain ⟨S2, hS2⟩ : ∃ S2, TS.mk E5 S.R.rest ps2 S.last = S2 := ⟨_, rfl⟩
        rw [hS2] at hD5 hst5 hfe5
        have D5 := box (show Dr W t p mm (j + 1) S2 G5 A A2 ((A1 ++ A2).map fun x => (x.1 : Int)) (.slice ba bn0 bc) w5 from hA ▸ hD5)
        have Hlo := box (show ∀ x ∈ A1, x.1 < 1024 * j + 1024 from fun x hx => by have := hlo x hx; omega)
        have Hhi := box (show ∀ x ∈ A2, 1024 * j + 1024 ≤ x.1 from fun x hx => by have := hhi x hx; omega)
        obtain ⟨n5, hT5', hn5⟩ := hD5.tp
        have hbeg5 := box (show Calls Tryz.prog 31 #[ptrTo t] w5 fun e w' => e = .returned (.int .i64 ((1024 * j + 1024 : Nat) : Int)) ∧ w5 = w' from by have := Begin_any _ hT5'; rwa [hst5] at this)
        have hend5 := box (show Calls Tryz.prog 27 #[ptrTo t] w5 fun e w' => e = .returned (.int .i64 (fe : Int)) ∧ w5 = w' from by have := End_any _ hT5'; rwa [hfe5] at this)
        have hsy := box (Sync_any _ hT5' hD5.able (by omega) hD5.synced)
        subst hst
        clear hD5 hT5 hS5 hps hl5 ha5 hlo hhi hst5 hfe5 hS2 hdrop hbeg2 hend2 hT5' HD Hst Hfe h2 hA t1
        go_wp2_with fail
        refine hbeg5.out.mono ?_
        rintro e w6 ⟨rfl, rfl⟩
        go_wp2_with fail
        refine hend5.out.mono ?_
        rintro e w6 ⟨rfl, rfl⟩
        clear hbeg5 hend5
        cases again
        case false =>
          have HZ := D5
          clear D5 hsy
          go_wp2_with fail
          go_loopw [9] (fun bv wx => ∃ (B : List Rq), (∀ x ∈ B, x.1 < 1024 * j + 1024) ∧ Box (Dr W t p mm (j + 1) S2 G5 A A2 ((B ++ A2).map fun x => (x.1 : Int)) bv wx)) (fun bv _ => sliceLen bv)
          case atStart => exact ⟨A1, Hlo.out, HZ⟩
          case round =>
            clear HZ
            obtain ⟨B, hB, HX⟩ := hrel
            have hids := HX.out.ids
            obtain ⟨da, dc, hdv, ⟨hd1, hd2⟩, hdcell⟩ := hids
            subst hdv
            rw [List.length_map] at hd1 hd2
            rw [List.length_map] at HX ⊢
            unfold maxLen at hd1
            have Hcell := box hdcell
            have HB := box hB
            clear hdcell hB
            by_cases hb0 : B = []
            · subst hb0
              rw [List.nil_append] at HX hd1 hd2 ⊢
              clear HB
              by_cases hA0 : A2.length = 0
              · have hlt0 : decide ((0 : Int) < (A2.length : Int)) = false := decide_eq_false (by omega)
                clear Hcell hlt0
                rw [hA0] at HX hd1 hd2 ⊢
                obtain ⟨n9, hT9, hn9⟩ := HX.out.tp
                have hlist := hT9.few.2
                have hfl : (fromL S2.recs 0).length ≤ 1000000 := Nat.le_trans (List.length_filter_le _ _) (by have := HX.out.fin; omega)
                have hids := box (Ids_any 0 _ hT9 (by have := HX.out.fin; omega))
                clear hT9
                go_wp2_with fail
                refine hids.out.mono ?_
                rintro e w8 ⟨ia, icap, rfl, hrow, hc8⟩
                have hints := box (HX.out.ints hc8 hfl hrow)
                have HX8 := box (HX.out.calm hc8)
                clear hrow hc8 hids HX
                obtain ⟨nf, hnf⟩ : ∃ nf, (fromL S2.recs 0).length = nf := ⟨_, rfl⟩
                rw [hnf] at hints ⊢
                clear hnf hfl
                go_wp2_with fail
                refine hints.out.mono ?_
                rintro e w9 ⟨rfl, hc9⟩
                have HX9 := box (HX8.out.calm hc9)
                clear hints hc9 HX8
                go_wp2_with fail
                go_loopw [144] (fun iv wy => ∃ i : Nat, i ≤ A2.length ∧ iv = .int .i64 (i : Int) ∧ Box (Dr W t p mm (j + 1) S2 G5 A A2 (A2.map fun x => (x.1 : Int)) (.slice da 0 dc) wy)) (fun iv _ => A2.length - (intOf iv).toNat)
                case atStart => exact ⟨0, Nat.zero_le _, rfl, HX9⟩
                case round =>
                  clear HX9
                  obtain ⟨i, hi, rfl, HY⟩ := hrel
                  by_cases hil : i < A2.length
                  · exact absurd hil (by omega)
                  · have hie : i = A2.length := by omega
                    rw [hA0] at hie
                    subst hie
                    go_wp2_with fail
                    go_roundw
                    case rel => exact ⟨j + 1, t, S2, G5, A2, rfl, by go_num, by omega, HY⟩
                    case measure => simp [intOf]; omega
              · have hlt0 : decide ((0 : Int) < (A2.length : Int)) = true := decide_eq_true (by omega)
                obtain ⟨db, doff, rfl, hdb, c0⟩ := HX.out.cell (i := 0) (by omega)
                have hhi := Hhi.out A2[0] (List.getElem_mem _)
                have hge : decide ((A2[0].1 : Int) < 1024 * (j : Int) + 1024) = false := decide_eq_false (by omega)
                rw [Nat.add_zero] at c0
                clear Hcell
                obtain ⟨da, hda⟩ : ∃ da, da = some (⟨db, doff, none⟩ : Addr) := ⟨_, rfl⟩
                obtain ⟨x0, hx0⟩ : ∃ x0, A2[0].1 = x0 := ⟨_, rfl⟩
                rw [hx0] at c0 hge hhi
                clear hx0
                obtain ⟨n9, hT9, hn9⟩ := HX.out.tp
                have hlist := hT9.few.2
                have hfl : (fromL S2.recs 0).length ≤ 1000000 := Nat.le_trans (List.length_filter_le _ _) (by have := HX.out.fin; omega)
                have hids := box (Ids_any 0 _ hT9 (by have := HX.out.fin; omega))
                clear hT9
                go_wp2_with fail
                refine hids.out.mono ?_
                rintro e w8 ⟨ia, icap, rfl, hrow, hc8⟩
                have hints := box (HX.out.ints hc8 hfl hrow)
                have HX8 := box (HX.out.calm hc8)
                clear hrow hc8 hids HX
                obtain ⟨nf, hnf⟩ : ∃ nf, (fromL S2.recs 0).length = nf := ⟨_, rfl⟩
                rw [hnf] at hints ⊢
                clear hnf hfl
                go_wp2_with fail
                refine hints.out.mono ?_
                rintro e w9 ⟨rfl, hc9⟩
                have HX9 := box (HX8.out.calm hc9)
                clear hints hc9 HX8
                go_wp2_with fail
                go_loopw [144] (fun iv wy => ∃ i : Nat, i ≤ A2.length ∧ iv = .int .i64 (i : Int) ∧ Box (Dr W t p mm (j + 1) S2 G5 A A2 (A2.map fun x => (x.1 : Int)) (.slice (some ⟨db, doff, none⟩) A2.length dc) wy)) (fun iv _ => A2.length - (intOf iv).toNat)
                case atStart => exact ⟨0, Nat.zero_le _, rfl, HX9⟩
                case round =>
                  clear HX9
                  obtain ⟨i, hi, rfl, HY⟩ := hrel
                  by_cases hil : i < A2.length
                  · obtain ⟨db', doff', heq, hdb, c0⟩ := HY.out.cell hil
                    obtain ⟨rfl, rfl⟩ : db = db' ∧ doff = doff' := by simpa using heq
                    clear heq
                    have hmem : A2[i] ∈ A2 := List.getElem_mem hil
                    have hrd := HY.out.reads hmem
                    have hhit := HY.out.hit hmem
                    have hsm := fun (w' : World) (kv : Value) (hc : Calm W w') (hk : StrsAt w' kv A2[i].2.1.keys) => HY.out.same_ (w' := w') hmem (kv := kv) hc hk
                    have hkk := (HY.out.msgs _ (HY.out.sub _ hmem)).1
                    obtain ⟨⟨xi, xm, xv⟩, hxE⟩ : ∃ x : Rq, A2[i] = x := ⟨_, rfl⟩
                    rw [hxE] at c0 hrd hhit hsm hkk
                    simp only at c0 hrd hhit hsm hkk
                    obtain ⟨xva, xvc, rfl, _⟩ := hkk.uni
                    have Hrd := box hrd
                    have Hhit := box hhit
                    have Hsm := box hsm
                    clear hxE hmem hrd hhit hsm hkk
                    go_wp2_with fail
                    refine Hrd.out.mono ?_
                    rintro e w10 ⟨hc10, kv, rfl, hkv⟩
                    obtain ⟨va, vc, rfl, _⟩ := hkv.uni
                    obtain ⟨⟨kd, q, du, rt, rf, bn, tp_, tg, bd, ks⟩, hm⟩ : ∃ m, xm = m := ⟨_, rfl⟩
                    subst hm
                    simp only at hkv
                    obtain ⟨wa, hwa⟩ : ∃ wa, w10.alloc (.cells (msgA ⟨kd, q, du, rt, rf, bn, tp_, tg, bd, ks⟩ (.slice va ks.length vc)) 62) = wa := ⟨_, rfl⟩
                    have Ja := box (show wa.heap[w10.heap.size]? = some (.cells (msgA ⟨kd, q, du, rt, rf, bn, tp_, tg, bd, ks⟩ (.slice va ks.length vc)) 62 (0, 0)) by rw [← hwa]; exact heap_new w10 _)
                    have Ca := box (show Calm w10 wa by rw [← hwa]; exact (Calm.refl w10).alloc _)
                    have HZ := box ((HY.out.calm hc10).calm Ca.out)
                    have hlk := Hhit.out wa (hc10.trans Ca.out)
                    have Hs2 := box (Hsm.out wa _ HZ.out.owns (hkv.calm Ca.out))
                    have d0 := cell_of Ja.out 0
                    have d1 := cell_of Ja.out 1
                    have d2 := cell_of Ja.out 2
                    have d3 := cell_of Ja.out 3
                    have d4 := cell_of Ja.out 4
                    have d5 := cell_of Ja.out 5
                    have d6 := cell_of Ja.out 6
                    have d7 := cell_of Ja.out 7
                    have d8 := cell_of Ja.out 8
                    have d9 := cell_of Ja.out 9
                    have dlt := heap_lt Ja.out
                    clear HY hkv hc10 Hrd Hhit Hsm c0
                    go_wp2_with fail
                    refine Hs2.out.mono ?_
                    rintro e w11 ⟨rfl, hc11⟩
                    have HZ2 := box (HZ.out.calm hc11)
                    clear HZ hc11 Hs2 d0 d1 d2 d3 d4 d5 d6 d7 d8 d9 dlt hlk
                    go_wp2_with fail
                    go_roundw
                    case rel => exact ⟨i + 1, by omega, by go_num, HZ2⟩
                    case measure => simp [intOf]; omega
                  · have hie : i = A2.length := by omega
                    subst hie
                    go_wp2_with fail
                    go_roundw
                    case rel => exact ⟨j + 1, t, S2, G5, A2, rfl, by go_num, by omega, HY⟩
                    case measure => simp [intOf]; omega
            · obtain ⟨x, X, rfl⟩ := List.exists_cons_of_ne_nil hb0
              have hx := HB.out x List.mem_cons_self
              obtain ⟨db, doff, rfl, hdb, _⟩ := Hcell.out 0 (by simp)
              have hlen : ((x :: X) ++ A2).length = ((X ++ A2).map fun x => (x.1 : Int)).length + 1 := by simp
              rw [hlen] at HX hd1 hd2 ⊢
              obtain ⟨a', hsl, hDt, c0, _⟩ := Dr.tail (i := (x.1 : Int)) (I := (X ++ A2).map fun x => (x.1 : Int)) HX.out
              have Hrd := box (HX.out.gone hx)
              have Hdt := box hDt
              have hlx : decide ((x.1 : Int) < 1024 * (j : Int) + 1024) = true := decide_eq_true (by omega)
              have HB2 := box (show ∀ y ∈ X, y.1 < 1024 * j + 1024 from fun y hy => HB.out y (List.mem_cons_of_mem _ hy))
              obtain ⟨N, hN⟩ : ∃ N, ((X ++ A2).map fun x => (x.1 : Int)).length = N := ⟨_, rfl⟩
              rw [hN] at hsl Hdt hd1 hd2 ⊢
              obtain ⟨xi, hxi⟩ : ∃ xi, x.1 = xi := ⟨_, rfl⟩
              rw [hxi] at c0 Hrd hlx hx
              clear hDt HX Hcell hlen HB hN hxi
              go_wp2_with fail
              refine Hrd.out.mono ?_
              rintro e w8 ⟨hc8, rfl⟩
              have HZ := box ((Hdt.out.calm hc8).calm ((Calm.refl w8).alloc (.cells #[.int .i64 0, .int .i64 0, .int .i64 0, .int .i64 0, .int .i64 0, .int .i64 0, .string ⟨#[]⟩, .string ⟨#[]⟩, .string ⟨#[]⟩, .slice none 0 0] 62)))
              clear hc8 Hdt Hrd c0
              go_wp2_with fail
              go_roundw
              case rel => exact ⟨X, HB2.out, HZ⟩
              case measure => simp [sliceLen]
        case true =>
          go_wp2_with fail
          refine hsy.out.mono ?_
          rintro e w7 ⟨rfl, E7, G7, hT7, hS7, ha7, _, _⟩
          have D7 := box (D5.out.synced_ hn5 hT7 hS7 ha7)
          have hop := box (D7.out.opened HT.out)
          clear hT7 hS7 ha7 hsy D5 D7
          go_wp2_with fail
          refine hop.out.mono ?_
          rintro e w8 ⟨t8, S8, G8, rfl, hZ⟩
          have HZ := box hZ
          clear hZ hop
          go_wp2_with fail
          go_loopw [9] (fun bv wx => ∃ (B : List Rq), (∀ x ∈ B, x.1 < 1024 * j + 1024) ∧ Box (Dr W t8 p mm (j + 1) S8 G8 A A2 ((B ++ A2).map fun x => (x.1 : Int)) bv wx)) (fun bv _ => sliceLen bv)
          case atStart => exact ⟨A1, Hlo.out, HZ⟩
          case round =>
            clear HZ
            obtain ⟨B, hB, HX⟩ := hrel
            have hids := HX.out.ids
            obtain ⟨da, dc, hdv, ⟨hd1, hd2⟩, hdcell⟩ := hids
            subst hdv
            rw [List.length_map] at hd1 hd2
            rw [List.length_map] at HX ⊢
            unfold maxLen at hd1
            have Hcell := box hdcell
            have HB := box hB
            clear hdcell hB
            by_cases hb0 : B = []
            · subst hb0
              rw [List.nil_append] at HX hd1 hd2 ⊢
              clear HB
              by_cases hA0 : A2.length = 0
              · have hlt0 : decide ((0 : Int) < (A2.length : Int)) = false := decide_eq_false (by omega)
                clear Hcell hlt0
                rw [hA0] at HX hd1 hd2 ⊢
                obtain ⟨n9, hT9, hn9⟩ := HX.out.tp
                have hlist := hT9.few.2
                have hfl : (fromL S8.recs 0).length ≤ 1000000 := Nat.le_trans (List.length_filter_le _ _) (by have := HX.out.fin; omega)
                have hids := box (Ids_any 0 _ hT9 (by have := HX.out.fin; omega))
                clear hT9
                go_wp2_with fail
                refine hids.out.mono ?_
                rintro e w8 ⟨ia, icap, rfl, hrow, hc8⟩
                have hints := box (HX.out.ints hc8 hfl hrow)
                have HX8 := box (HX.out.calm hc8)
                clear hrow hc8 hids HX
                obtain ⟨nf, hnf⟩ : ∃ nf, (fromL S8.recs 0).length = nf := ⟨_, rfl⟩
                rw [hnf] at hints ⊢
                clear hnf hfl
                go_wp2_with fail
                refine hints.out.mono ?_
                rintro e w9 ⟨rfl, hc9⟩
                have HX9 := box (HX8.out.calm hc9)
                clear hints hc9 HX8
                go_wp2_with fail
                go_loopw [144] (fun iv wy => ∃ i : Nat, i ≤ A2.length ∧ iv = .int .i64 (i : Int) ∧ Box (Dr W t8 p mm (j + 1) S8 G8 A A2 (A2.map fun x => (x.1 : Int)) (.slice da 0 dc) wy)) (fun iv _ => A2.length - (intOf iv).toNat)
                case atStart => exact ⟨0, Nat.zero_le _, rfl, HX9⟩
                case round =>
                  clear HX9
                  obtain ⟨i, hi, rfl, HY⟩ := hrel
                  by_cases hil : i < A2.length
                  · exact absurd hil (by omega)
                  · have hie : i = A2.length := by omega
                    rw [hA0] at hie
                    subst hie
                    go_wp2_with fail
                    go_roundw
                    case rel => exact ⟨j + 1, t8, S8, G8, A2, rfl, by go_num, by omega, HY⟩
                    case measure => simp [intOf]; omega
              · have hlt0 : decide ((0 : Int) < (A2.length : Int)) = true := decide_eq_true (by omega)
                obtain ⟨db, doff, rfl, hdb, c0⟩ := HX.out.cell (i := 0) (by omega)
                have hhi := Hhi.out A2[0] (List.getElem_mem _)
                have hge : decide ((A2[0].1 : Int) < 1024 * (j : Int) + 1024) = false := decide_eq_false (by omega)
                rw [Nat.add_zero] at c0
                clear Hcell
                obtain ⟨da, hda⟩ : ∃ da, da = some (⟨db, doff, none⟩ : Addr) := ⟨_, rfl⟩
                obtain ⟨x0, hx0⟩ : ∃ x0, A2[0].1 = x0 := ⟨_, rfl⟩
                rw [hx0] at c0 hge hhi
                clear hx0
                obtain ⟨n9, hT9, hn9⟩ := HX.out.tp
                have hlist := hT9.few.2
                have hfl : (fromL S8.recs 0).length ≤ 1000000 := Nat.le_trans (List.length_filter_le _ _) (by have := HX.out.fin; omega)
                have hids := box (Ids_any 0 _ hT9 (by have := HX.out.fin; omega))
                clear hT9
                go_wp2_with fail
                refine hids.out.mono ?_
                rintro e w8 ⟨ia, icap, rfl, hrow, hc8⟩
                have hints := box (HX.out.ints hc8 hfl hrow)
                have HX8 := box (HX.out.calm hc8)
                clear hrow hc8 hids HX
                obtain ⟨nf, hnf⟩ : ∃ nf, (fromL S8.recs 0).length = nf := ⟨_, rfl⟩
                rw [hnf] at hints ⊢
                clear hnf hfl
                go_wp2_with fail
                refine hints.out.mono ?_
                rintro e w9 ⟨rfl, hc9⟩
                have HX9 := box (HX8.out.calm hc9)
                clear hints hc9 HX8
                go_wp2_with fail
                go_loopw [144] (fun iv wy => ∃ i : Nat, i ≤ A2.length ∧ iv = .int .i64 (i : Int) ∧ Box (Dr W t8 p mm (j + 1) S8 G8 A A2 (A2.map fun x => (x.1 : Int)) (.slice (some ⟨db, doff, none⟩) A2.length dc) wy)) (fun iv _ => A2.length - (intOf iv).toNat)
                case atStart => exact ⟨0, Nat.zero_le _, rfl, HX9⟩
                case round =>
                  clear HX9
                  obtain ⟨i, hi, rfl, HY⟩ := hrel
                  by_cases hil : i < A2.length
                  · obtain ⟨db', doff', heq, hdb, c0⟩ := HY.out.cell hil
                    obtain ⟨rfl, rfl⟩ : db = db' ∧ doff = doff' := by simpa using heq
                    clear heq
                    have hmem : A2[i] ∈ A2 := List.getElem_mem hil
                    have hrd := HY.out.reads hmem
                    have hhit := HY.out.hit hmem
                    have hsm := fun (w' : World) (kv : Value) (hc : Calm W w') (hk : StrsAt w' kv A2[i].2.1.keys) => HY.out.same_ (w' := w') hmem (kv := kv) hc hk
                    have hkk := (HY.out.msgs _ (HY.out.sub _ hmem)).1
                    obtain ⟨⟨xi, xm, xv⟩, hxE⟩ : ∃ x : Rq, A2[i] = x := ⟨_, rfl⟩
                    rw [hxE] at c0 hrd hhit hsm hkk
                    simp only at c0 hrd hhit hsm hkk
                    obtain ⟨xva, xvc, rfl, _⟩ := hkk.uni
                    have Hrd := box hrd
                    have Hhit := box hhit
                    have Hsm := box hsm
                    clear hxE hmem hrd hhit hsm hkk
                    go_wp2_with fail
                    refine Hrd.out.mono ?_
                    rintro e w10 ⟨hc10, kv, rfl, hkv⟩
                    obtain ⟨va, vc, rfl, _⟩ := hkv.uni
                    obtain ⟨⟨kd, q, du, rt, rf, bn, tp_, tg, bd, ks⟩, hm⟩ : ∃ m, xm = m := ⟨_, rfl⟩
                    subst hm
                    simp only at hkv
                    obtain ⟨wa, hwa⟩ : ∃ wa, w10.alloc (.cells (msgA ⟨kd, q, du, rt, rf, bn, tp_, tg, bd, ks⟩ (.slice va ks.length vc)) 62) = wa := ⟨_, rfl⟩
                    have Ja := box (show wa.heap[w10.heap.size]? = some (.cells (msgA ⟨kd, q, du, rt, rf, bn, tp_, tg, bd, ks⟩ (.slice va ks.length vc)) 62 (0, 0)) by rw [← hwa]; exact heap_new w10 _)
                    have Ca := box (show Calm w10 wa by rw [← hwa]; exact (Calm.refl w10).alloc _)
                    have HZ := box ((HY.out.calm hc10).calm Ca.out)
                    have hlk := Hhit.out wa (hc10.trans Ca.out)
                    have Hs2 := box (Hsm.out wa _ HZ.out.owns (hkv.calm Ca.out))
                    have d0 := cell_of Ja.out 0
                    have d1 := cell_of Ja.out 1
                    have d2 := cell_of Ja.out 2
                    have d3 := cell_of Ja.out 3
                    have d4 := cell_of Ja.out 4
                    have d5 := cell_of Ja.out 5
                    have d6 := cell_of Ja.out 6
                    have d7 := cell_of Ja.out 7
                    have d8 := cell_of Ja.out 8
                    have d9 := cell_of Ja.out 9
                    have dlt := heap_lt Ja.out
                    clear HY hkv hc10 Hrd Hhit Hsm c0
                    go_wp2_with fail
                    refine Hs2.out.mono ?_
                    rintro e w11 ⟨rfl, hc11⟩
                    have HZ2 := box (HZ.out.calm hc11)
                    clear HZ hc11 Hs2 d0 d1 d2 d3 d4 d5 d6 d7 d8 d9 dlt hlk
                    go_wp2_with fail
                    go_roundw
                    case rel => exact ⟨i + 1, by omega, by go_num, HZ2⟩
                    case measure => simp [intOf]; omega
                  · have hie : i = A2.length := by omega
                    subst hie
                    go_wp2_with fail
                    go_roundw
                    case rel => exact ⟨j + 1, t8, S8, G8, A2, rfl, by go_num, by omega, HY⟩
                    case measure => simp [intOf]; omega
            · obtain ⟨x, X, rfl⟩ := List.exists_cons_of_ne_nil hb0
              have hx := HB.out x List.mem_cons_self
              obtain ⟨db, doff, rfl, hdb, _⟩ := Hcell.out 0 (by simp)
              have hlen : ((x :: X) ++ A2).length = ((X ++ A2).map fun x => (x.1 : Int)).length + 1 := by simp
              rw [hlen] at HX hd1 hd2 ⊢
              obtain ⟨a', hsl, hDt, c0, _⟩ := Dr.tail (i := (x.1 : Int)) (I := (X ++ A2).map fun x => (x.1 : Int)) HX.out
              have Hrd := box (HX.out.gone hx)
              have Hdt := box hDt
              have hlx : decide ((x.1 : Int) < 1024 * (j : Int) + 1024) = true := decide_eq_true (by omega)
              have HB2 := box (show ∀ y ∈ X, y.1 < 1024 * j + 1024 from fun y hy => HB.out y (List.mem_cons_of_mem _ hy))
              obtain ⟨N, hN⟩ : ∃ N, ((X ++ A2).map fun x => (x.1 : Int)).length = N := ⟨_, rfl⟩
              rw [hN] at hsl Hdt hd1 hd2 ⊢
              obtain ⟨xi, hxi⟩ : ∃ xi, x.1 = xi := ⟨_, rfl⟩
              rw [hxi] at c0 Hrd hlx hx
              clear hDt HX Hcell hlen HB hN hxi
              go_wp2_with fail
              refine Hrd.out.mono ?_
              rintro e w8 ⟨hc8, rfl⟩
              have HZ := box ((Hdt.out.calm hc8).calm ((Calm.refl w8).alloc (.cells #[.int .i64 0, .int .i64 0, .int .i64 0, .int .i64 0, .int .i64 0, .int .i64 0, .string ⟨#[]⟩, .string ⟨#[]⟩, .string ⟨#[]⟩, .slice none 0 0] 62)))
              clear hc8 Hdt Hrd c0
              go_wp2_with fail
              go_roundw
              case rel => exact ⟨X, HB2.out, HZ⟩
              case measure => simp [sliceLen]
end Go.Proofs.YtjpokaifbnkmhaaGreatDoor.tp
