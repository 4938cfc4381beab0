/- Lemmas for this claim. -/
import Derived.Test.YtjpokaifbnkmhaaGreatDoorPk37
set_option maxRecDepth 100000
namespace Go.Proofs.YtjpokaifbnkmhaaGreatDoor.tp
open Go.ChangeShapes Go.WideShapes Go.ChangeAt Go.RowKit Go.ChangeMaps Go.MapKept
open rc oc cr dk sg
section
variable {W w w' w2 : World} {g bg : Nat} {B : ByteArray} {A : List Rq} {iv lv : Value}
set_option maxHeartbeats 16000000 in
theorem rAppend_any (m : MsgS) (kv : Value) (w : World) (h : RT W w g B bg A iv lv) (hcW : Calm W w) (hkW : StrsAt W kv m.keys) (hkl : m.keys.length ≤ 1000000) (hs : ∀ s ∈ m.keys, s.size ≤ maxLen) (hz : m.topic.size ≤ maxLen ∧ m.tag.size ≤ maxLen ∧ m.body.size ≤ maxLen) (hok : okM m) (hB : B.size ≤ 1000000) (he : B.size % 1024 = 0 ∨ B.size % 1024 + 3 ≤ 1024) (hA : A.length < 1000) :
  Calls Tryz.prog 40 #[ptrTo g, .agg (msgA m kv)] w (RAppDone W g B bg A iv lv m kv w) := by
 have hkw := hkW.calm hcW
 obtain ⟨ka, kcap, hkv, _⟩ := hkw.uni
 subst hkv
 have H := box h
 obtain ⟨ia, inn, ic, rfl⟩ := row_slice h.ids
 obtain ⟨lla, lnn, lc, rfl⟩ := row_slice h.row
 have hfoot : ∀ b, (b = g ∨ (Value.slice ia inn ic).ownBlock = some b ∨ (Value.slice lla lnn lc).ownBlock = some b) → W.heap.size ≤ b := fun b hb => by
  rcases hb with rfl | hb | hb
  ·exact h.gW
  ·exact (h.ids.lt b hb).1
  ·exact (h.row.lt b hb).1
 have hown : ¬ (w.heap.size = g ∨ (Value.slice ia inn ic).ownBlock = some w.heap.size ∨ (Value.slice lla lnn lc).ownBlock = some w.heap.size) := fun hb => by
  rcases hb with hb | hb | hb
  ·have := heap_lt h.obj; omega
  ·have := (h.ids.lt _ hb).2; omega
  ·have := (h.row.lt _ hb).2; omega
 have hM : RTm W w g B bg (A.map (·.1)) A (.slice ia inn ic) (.slice lla lnn lc) := ⟨h.obj, by rw [List.length_map]; exact h.ids, h.row⟩
 have hid0 : idP B.size m = if goesIn B.size (recB m).size then B.size else B.size + roomAt B.size := rfl
 have hcost0 : costP B.size m = if goesIn B.size (recB m).size then (recB m).size else roomAt B.size + (recB m).size := by
  have : costP B.size m = (flat (laidP B.size m)).length := by unfold costP; rw [if_pos hok]
  rw [this, laid_len he]
 obtain ⟨W1, hW1⟩ : ∃ W1, w.alloc (.cells (msgA m (.slice ka m.keys.length kcap)) 62) = W1 := ⟨_, rfl⟩
 have J1 := box (show W1.heap[w.heap.size]? = some (.cells (msgA m (.slice ka m.keys.length kcap)) 62 (0, 0)) by rw [← hW1]; exact heap_new w _)
 have C1 := box (show Calm w W1 by rw [← hW1]; exact (Calm.refl w).alloc _)
 have hput := box (fun (w' : World) (hc : Calm W1 w') => rPut_any m (.slice ka m.keys.length kcap) w' ((hkw.calm C1.out).calm hc) hok.1)
 have hpE : (putS RightP m).1 = recB m := by unfold putS; rw [if_neg (fun h => h hok.1), if_neg hok.2]
 rw [hpE] at hput
 have hcost := box (fun (w' : World) (hc : Calm W1 w') => rCost_any g B _ _ _ m (.slice ka m.keys.length kcap) w' (heap_calm (C1.out.trans hc) h.obj) ((hkw.calm C1.out).calm hc) hs hz hB he)
 have hb := recB_bounds hok.1 hok.2
 have hM' := box hM
 have HA := box hA
 obtain ⟨rb, hrb⟩ : ∃ rb, recB m = rb := ⟨_, rfl⟩
 rw [hrb] at hput hid0 hcost0 hb
 obtain ⟨⟨kd, q, du, rt, rf, bn, tp, tg, bd, ks⟩, hmE⟩ : ∃ m', m = m' := ⟨_, rfl⟩
 subst hmE
 simp only at J1 hput hcost hkW hkl W1 hW1
 have c0 := cell_of J1.out 0
 have c1 := cell_of J1.out 1
 have c2 := cell_of J1.out 2
 have c3 := cell_of J1.out 3
 have c4 := cell_of J1.out 4
 have c5 := cell_of J1.out 5
 have c6 := cell_of J1.out 6
 have c7 := cell_of J1.out 7
 have c8 := cell_of J1.out 8
 have c9 := cell_of J1.out 9
 have clt := heap_lt J1.out
 clear h hM hs hz hok hpE hrb hkw
 go_enter Tryz.func40, Tryz.ntmps40
 go_wp2_with fail
 (try rw [hW1])
 refine (hput.out _ (Calm.refl _)).mono ?_
 rintro e w2 ⟨rfl, hc2⟩
 have J2 := box (heap_calm hc2 J1.out)
 have HC2 := box hc2
 clear hc2 c0 c1 c2 c3 c4 c5 c6 c7 c8 c9 clt
 have c0 := cell_of J2.out 0
 have c1 := cell_of J2.out 1
 have c2 := cell_of J2.out 2
 have c3 := cell_of J2.out 3
 have c4 := cell_of J2.out 4
 have c5 := cell_of J2.out 5
 have c6 := cell_of J2.out 6
 have c7 := cell_of J2.out 7
 have c8 := cell_of J2.out 8
 have c9 := cell_of J2.out 9
 have clt := heap_lt J2.out
 by_cases hg : goesIn B.size rb.size
 ·rw [if_pos hg] at hid0 hcost0
  have hid := hid0
  have hbt : B.size + rb.size = B.size + costP B.size ⟨kd, q, du, rt, rf, bn, tp, tg, bd, ks⟩ := by rw [hcost0]
  rw [hcost0] at hcost
  have t1 : decide ((0 : Int) < (rb.size : Int) - (rb.size : Int)) = false := decide_eq_false (by omega)
  clear hid0 hcost0 hg
  go_wp2_with fail
  refine (hcost.out _ HC2.out).mono ?_
  rintro e w3 ⟨rfl, hc3⟩
  have HC3 := box (C1.out.trans (HC2.out.trans hc3))
  have HM := box (hM'.out.calm HC3.out)
  have HJ := box (heap_calm hc3 J2.out)
  have HK := box (Keeps.of_calm (F := fun b => b = g ∨ (Value.slice ia inn ic).ownBlock = some b ∨ (Value.slice lla lnn lc).ownBlock = some b) HC3.out)
  clear hc3 c0 c1 c2 c3 c4 c5 c6 c7 c8 c9 clt hput hcost hM' J1 J2 HC2 C1 HC3
  obtain ⟨hci1, hci2, hci3, hci4, hci5⟩ := HM.out.cells
  have hfz := free_of HM.out.obj 0
  have hsum : B.size + rb.size ≤ 9223372036854775807 := by omega
  obtain ⟨hM6, hK6⟩ := HM.out.text (B ++ rb)
  have hcz6 : Calm W (w3.setCell ⟨g, 0, none⟩ (.string (B ++ rb))) := Below.trans hcW ((HK.out.trans' hK6).below hcW.size hfoot)
  have hJ6 := (hK6.block w.heap.size (heap_lt HJ.out) hown).trans HJ.out
  have M6 := box hM6
  have K6 := box (HK.out.trans' hK6)
  have Z6 := box hcz6
  have J6 := box hJ6
  have F_ := box hfoot
  have O_ := box hown
  have X_ := box (And.intro hid hbt)
  have Y_ := box hcW
  have V_ := box hkW
  clear hM6 hK6 hcz6 hJ6 hfoot hown hid hbt hcW hkW HM HK HJ
  go_upto_region 7 with fail
  obtain ⟨w6, hw6⟩ : ∃ w6, w3.setCell ⟨g, 0, none⟩ (.string (B ++ rb)) = w6 := ⟨_, rfl⟩
  rw [hw6] at M6 K6 Z6 J6 ⊢
  clear hw6 hci1 hci2 hci3 hci4 hci5 hfz
  obtain ⟨iv2, w7, happ7, ho7, hM7, hk7, hg7⟩ := M6.out.id Z6.out.size (by rw [List.length_map]; omega) B.size
  obtain ⟨ia2, in2, ic2, rfl⟩ := row_slice hM7.ids
  have Happ7 := box happ7
  have M7 := box hM7
  have K7 := box (K6.out.trans' hk7)
  have J7 := box ((hk7.block w.heap.size (heap_lt J6.out) O_.out).trans J6.out)
  have Z7 := box (show Calm W (w7.setCell ⟨g, 2, none⟩ (.slice ia2 in2 ic2)) from Below.trans Y_.out (K7.out.below Y_.out.size F_.out))
  have G7 := box hg7
  obtain ⟨k61, k62, k63, k64, k65⟩ := M6.out.cells
  have e72 : w7.cell? ⟨g, 2, none⟩ = some (.slice ia inn ic) := cell_of ho7 2
  have f72 := free_of ho7 2
  have l7 := heap_lt ho7
  clear happ7 ho7 hM7 hk7 hg7 M6 J6 Z6
  go_upto_region 8 with (first | (at_builtin; refine Lib.wpList_append_run _ rfl _ _ _ _ rfl _ _ rfl rfl _ _ Happ7.out ?_) | fail)
  obtain ⟨w8, hw8⟩ : ∃ w8, w7.setCell ⟨g, 2, none⟩ (.slice ia2 in2 ic2) = w8 := ⟨_, rfl⟩
  rw [hw8] at M7 K7 J7 Z7 ⊢
  clear hw8 k61 k62 k63 k64 k65 e72 f72 l7 Happ7
  have M8 := box (M7.out.calm (show Calm w8 w8.drew from (Calm.refl _).drew))
  obtain ⟨lv2, w9, happ9, ho9, hM9, hk9, hg9⟩ := M8.out.rec_ (by exact Z7.out.size) (by omega) (B.size, ⟨kd, q, du, rt, rf, bn, tp, tg, bd, ks⟩, .slice ka ks.length kcap) ⟨_, _, _, rfl⟩
  obtain ⟨la2, ln2, lc2, rfl⟩ := row_slice hM9.row
  have Happ9 := box happ9
  have hsz7 : w.heap.size ≤ w6.heap.size := K6.out.size
  have hsz9 : w.heap.size ≤ w8.drew.heap.size := K7.out.size
  have HD := box (show RAppDone W g B bg A (.slice ia inn ic) (.slice lla lnn lc) ⟨kd, q, du, rt, rf, bn, tp, tg, bd, ks⟩ (.slice ka ks.length kcap) w (.returned (.int .i64 (B.size : Int))) (w9.setCell ⟨g, 3, none⟩ (.slice la2 ln2 lc2)) from by
   obtain ⟨hid, hbt⟩ := X_.out
   refine ⟨by rw [hid], B ++ rb, .slice ia2 in2 ic2, .slice la2 ln2 lc2, by rw [ByteArray.size_append]; exact hbt, ?_, ?_, ?_, ?_⟩
   ·have h9 := hM9
    rw [← hid] at h9
    exact RTm.done (B2 := B) h9 H.out.gW hA H.out.msgs V_.out hkl
   ·exact (K7.out.drew).trans' (hk9.mono fun b _ hb => by
     rcases hb with hb | hb
     ·exact .inl hb
     ·exact .inr (.inr hb))
   ·intro b hb
    rcases G7.out b hb with h1 | h1
    ·exact .inl h1
    ·exact .inr (Nat.le_trans hsz7 h1)
   ·intro b hb
    rcases hg9 b hb with h1 | h1
    ·exact .inl h1
    ·exact .inr (Nat.le_trans hsz9 h1))
  have e93 : w9.cell? ⟨g, 3, none⟩ = some (.slice lla lnn lc) := cell_of ho9 3
  have f93 := free_of ho9 3
  have l9 := heap_lt ho9
  have d0 := cell_of J7.out 0
  have d1 := cell_of J7.out 1
  have d2 := cell_of J7.out 2
  have d3 := cell_of J7.out 3
  have d4 := cell_of J7.out 4
  have d5 := cell_of J7.out 5
  have d6 := cell_of J7.out 6
  have d7 := cell_of J7.out 7
  have d8 := cell_of J7.out 8
  have d9 := cell_of J7.out 9
  have dlt := heap_lt J7.out
  obtain ⟨m1, m2, m3, m4, m5⟩ := M7.out.cells
  clear happ9 ho9 hM9 hk9 hg9 hsz7 hsz9 M8 X_ F_ O_ Y_ V_ Z7 K7 K6 G7 H HA
  go_region_law (refine step_append rfl (.tmp 59) (.tmp 61) 55 rfl _ _ (by simp [Act.eval, Act.put]) (by simp [Act.eval, Act.put]) _ w9 Happ9.out ?_)
  all_goals
   go_wp2_with fail
   go_ret
   exact HD.out
 ·rw [if_neg hg] at hid0 hcost0
  obtain ⟨rm, hrm⟩ : ∃ rm, roomAt B.size = rm := ⟨_, rfl⟩
  have hrm3 : 3 ≤ rm ∧ rm ≤ 1024 := by rw [← hrm]; unfold roomAt; omega
  rw [hrm] at hid0 hcost0
  rw [hcost0] at hcost
  obtain ⟨mk1, mk2⟩ : (∀ w : World, (Instr.makeSlice 149 (.int .i64 (rm : Int)) (.int .i64 (rm : Int))).run Tryz.prog w = .ok (.slice (some ⟨w.heap.size, 0, none⟩) rm rm) (w.alloc (.cells (madeCells #[Value.int .u8 0] rm) 5))) ∧ ∀ w : World, (convert 149 9 (.slice (some ⟨w.heap.size, 0, none⟩) rm rm)).run Tryz.prog (w.alloc (.cells (madeCells #[Value.int .u8 0] rm) 5)) = .ok (.string (zerosB rm)) (w.alloc (.cells (madeCells #[Value.int .u8 0] rm) 5)) := ⟨fun w => (made_zeros w rm hrm3.2).1, fun w => (made_zeros w rm hrm3.2).2⟩
  have hfill := box (fun (w' : World) => rPut_any (fillM rm) (.slice none 0 0) w' (.inl ⟨rfl, none, 0, rfl⟩) (right_fill rm hrm3.2))
  have hpF : (putS RightP (fillM rm)).1 = fillB rm := by
   unfold putS
   rw [if_neg (fun h => h (right_fill rm hrm3.2)), if_pos rfl, if_pos (by show 3 ≤ (zerosB rm).size ∧ (zerosB rm).size ≤ 1024; rw [zerosB_size]; exact hrm3)]
   show fillB (zerosB rm).size = _
   rw [zerosB_size]
  rw [hpF] at hfill
  have hfz := fillB_size hrm3.1
  obtain ⟨fz, hfzE⟩ : ∃ fz, fillB rm = fz := ⟨_, rfl⟩
  rw [hfzE] at hfill hfz
  have Hfz := box hfz
  have hsum : B.size + fz.size ≤ 9223372036854775807 := by omega
  clear hrm hpF hfzE hg hfz
  go_wp2_with fail
  refine (hcost.out _ HC2.out).mono ?_
  rintro e w3 ⟨rfl, hc3⟩
  have HC3 := box (C1.out.trans (HC2.out.trans hc3))
  have HM3 := box (hM'.out.calm HC3.out)
  have HJ3 := box (heap_calm hc3 J2.out)
  have HK3 := box (Keeps.of_calm (F := fun b => b = g ∨ (Value.slice ia inn ic).ownBlock = some b ∨ (Value.slice lla lnn lc).ownBlock = some b) HC3.out)
  clear hc3 c0 c1 c2 c3 c4 c5 c6 c7 c8 c9 clt hput hcost hM' J1 J2 HC2 C1 HC3
  obtain ⟨hci1, hci2, hci3, hci4, hci5⟩ := HM3.out.cells
  have hffz := free_of HM3.out.obj 0
  go_upto_region 4 with fail
  have mk1' : (Instr.makeSlice 149 (.int .i64 (rm : Int)) (.int .i64 (rm : Int))).run Tryz.prog w3.drew = .ok (.slice (some ⟨w3.heap.size, 0, none⟩) rm rm) (w3.drew.alloc (.cells (madeCells #[Value.int .u8 0] rm) 5)) := mk1 w3.drew
  have mk2' : (convert 149 9 (.slice (some ⟨w3.heap.size, 0, none⟩) rm rm)).run Tryz.prog (w3.alloc (.cells (madeCells #[Value.int .u8 0] rm) 5)).drew = .ok (.string (zerosB rm)) (w3.alloc (.cells (madeCells #[Value.int .u8 0] rm) 5)).drew := mk2 w3.drew
  have CA := box (show Calm w3 (w3.drew.alloc (.cells (madeCells #[Value.int .u8 0] rm) 5)) from ((Calm.refl w3).drew).alloc _)
  have hcs := box (fun W' (hc : Calm w3 W') => ((HM3.out.calm hc).cells.1))
  clear mk1 mk2
  have hno : (9223372036854775807 < B.size + fz.size) = False := eq_false (by omega)
  have hob := box (fun W' (hc : Calm w3 W') => ((HM3.out.calm hc).obj))
  go_region_with ((go_at_call 49; refine (hfill.out _).mono ?_; rintro e w5 ⟨rfl, hb5⟩; have K5 := box (show Calm w3 w5 from CA.out.trans hb5); have hc5 := hcs.out w5 K5.out; have hf5 := free_of (hob.out w5 K5.out) 0; have hl5 := heap_lt (hob.out w5 K5.out)))
  all_goals
   clear hc5 hf5 hl5 hob hcs mk1' mk2' hno hb5 hci1 hci2 hci3 hci4 hci5 hffz
   have hM5 := HM3.out.calm K5.out
   obtain ⟨hM5t, hK5t⟩ := hM5.text (B ++ fz)
   have HM5 := box hM5t
   have HK5 := box ((HK3.out.trans' (Keeps.of_calm K5.out)).trans' hK5t)
   have HJ5 := box ((hK5t.block w.heap.size (heap_lt (heap_calm K5.out HJ3.out)) hown).trans (heap_calm K5.out HJ3.out))
   obtain ⟨w6_, hw6_⟩ : ∃ w6_, w5.setCell ⟨g, 0, none⟩ (.string (B ++ fz)) = w6_ := ⟨_, rfl⟩
   rw [hw6_] at HM5 HK5 HJ5 ⊢
   have hbs : (B ++ fz).size = B.size + rm := by rw [ByteArray.size_append, Hfz.out]
   obtain ⟨bt, hbtE⟩ : ∃ bt, B ++ fz = bt := ⟨_, rfl⟩
   rw [hbtE] at HM5 hbs ⊢
   have HM := HM5
   have HK := HK5
   have HJ := HJ5
   have hid : idP B.size ⟨kd, q, du, rt, rf, bn, tp, tg, bd, ks⟩ = bt.size := by rw [hid0, hbs]
   have hbt : bt.size + rb.size = B.size + costP B.size ⟨kd, q, du, rt, rf, bn, tp, tg, bd, ks⟩ := by rw [hcost0, hbs]; omega
   have hbsle : bt.size ≤ 1100000 := by omega
   clear hbs hM5 hM5t hK5t hw6_ hbtE HM5 HK5 HJ5 HM3 HK3 HJ3 K5 CA hid0 hcost0 Hfz hfill hsum
   obtain ⟨hci1, hci2, hci3, hci4, hci5⟩ := HM.out.cells
   have hfz := free_of HM.out.obj 0
   have hsum : bt.size + rb.size ≤ 9223372036854775807 := by omega
   obtain ⟨hM6, hK6⟩ := HM.out.text (bt ++ rb)
   have hcz6 : Calm W (w6_.setCell ⟨g, 0, none⟩ (.string (bt ++ rb))) := Below.trans hcW ((HK.out.trans' hK6).below hcW.size hfoot)
   have hJ6 := (hK6.block w.heap.size (heap_lt HJ.out) hown).trans HJ.out
   have M6 := box hM6
   have K6 := box (HK.out.trans' hK6)
   have Z6 := box hcz6
   have J6 := box hJ6
   have F_ := box hfoot
   have O_ := box hown
   have X_ := box (And.intro hid hbt)
   have Y_ := box hcW
   have V_ := box hkW
   clear hM6 hK6 hcz6 hJ6 hfoot hown hid hbt hcW hkW HM HK HJ
   go_upto_region 7 with fail
   obtain ⟨w6, hw6⟩ : ∃ w6, w6_.setCell ⟨g, 0, none⟩ (.string (bt ++ rb)) = w6 := ⟨_, rfl⟩
   rw [hw6] at M6 K6 Z6 J6 ⊢
   clear hw6 hci1 hci2 hci3 hci4 hci5 hfz
   obtain ⟨iv2, w7, happ7, ho7, hM7, hk7, hg7⟩ := M6.out.id Z6.out.size (by rw [List.length_map]; omega) bt.size
   obtain ⟨ia2, in2, ic2, rfl⟩ := row_slice hM7.ids
   have Happ7 := box happ7
   have M7 := box hM7
   have K7 := box (K6.out.trans' hk7)
   have J7 := box ((hk7.block w.heap.size (heap_lt J6.out) O_.out).trans J6.out)
   have Z7 := box (show Calm W (w7.setCell ⟨g, 2, none⟩ (.slice ia2 in2 ic2)) from Below.trans Y_.out (K7.out.below Y_.out.size F_.out))
   have G7 := box hg7
   obtain ⟨k61, k62, k63, k64, k65⟩ := M6.out.cells
   have e72 : w7.cell? ⟨g, 2, none⟩ = some (.slice ia inn ic) := cell_of ho7 2
   have f72 := free_of ho7 2
   have l7 := heap_lt ho7
   clear happ7 ho7 hM7 hk7 hg7 M6 J6 Z6
   go_upto_region 8 with (first | (at_builtin; refine Lib.wpList_append_run _ rfl _ _ _ _ rfl _ _ rfl rfl _ _ Happ7.out ?_) | fail)
   obtain ⟨w8, hw8⟩ : ∃ w8, w7.setCell ⟨g, 2, none⟩ (.slice ia2 in2 ic2) = w8 := ⟨_, rfl⟩
   rw [hw8] at M7 K7 J7 Z7 ⊢
   clear hw8 k61 k62 k63 k64 k65 e72 f72 l7 Happ7
   have M8 := box (M7.out.calm (show Calm w8 w8.drew from (Calm.refl _).drew))
   obtain ⟨lv2, w9, happ9, ho9, hM9, hk9, hg9⟩ := M8.out.rec_ (by exact Z7.out.size) (by omega) (bt.size, ⟨kd, q, du, rt, rf, bn, tp, tg, bd, ks⟩, .slice ka ks.length kcap) ⟨_, _, _, rfl⟩
   obtain ⟨la2, ln2, lc2, rfl⟩ := row_slice hM9.row
   have Happ9 := box happ9
   have hsz7 : w.heap.size ≤ w6.heap.size := K6.out.size
   have hsz9 : w.heap.size ≤ w8.drew.heap.size := K7.out.size
   have HD := box (show RAppDone W g B bg A (.slice ia inn ic) (.slice lla lnn lc) ⟨kd, q, du, rt, rf, bn, tp, tg, bd, ks⟩ (.slice ka ks.length kcap) w (.returned (.int .i64 (bt.size : Int))) (w9.setCell ⟨g, 3, none⟩ (.slice la2 ln2 lc2)) from by
    obtain ⟨hid, hbt⟩ := X_.out
    refine ⟨by rw [hid], bt ++ rb, .slice ia2 in2 ic2, .slice la2 ln2 lc2, by rw [ByteArray.size_append]; exact hbt, ?_, ?_, ?_, ?_⟩
    ·have h9 := hM9
     rw [← hid] at h9
     exact RTm.done (B2 := B) h9 H.out.gW hA H.out.msgs V_.out hkl
    ·exact (K7.out.drew).trans' (hk9.mono fun b _ hb => by
      rcases hb with hb | hb
      ·exact .inl hb
      ·exact .inr (.inr hb))
    ·intro b hb
     rcases G7.out b hb with h1 | h1
     ·exact .inl h1
     ·exact .inr (Nat.le_trans hsz7 h1)
    ·intro b hb
     rcases hg9 b hb with h1 | h1
     ·exact .inl h1
     ·exact .inr (Nat.le_trans hsz9 h1))
   have e93 : w9.cell? ⟨g, 3, none⟩ = some (.slice lla lnn lc) := cell_of ho9 3
   have f93 := free_of ho9 3
   have l9 := heap_lt ho9
   have d0 := cell_of J7.out 0
   have d1 := cell_of J7.out 1
   have d2 := cell_of J7.out 2
   have d3 := cell_of J7.out 3
   have d4 := cell_of J7.out 4
   have d5 := cell_of J7.out 5
   have d6 := cell_of J7.out 6
   have d7 := cell_of J7.out 7
   have d8 := cell_of J7.out 8
   have d9 := cell_of J7.out 9
   have dlt := heap_lt J7.out
   obtain ⟨m1, m2, m3, m4, m5⟩ := M7.out.cells
   clear happ9 ho9 hM9 hk9 hg9 hsz7 hsz9 M8 X_ F_ O_ Y_ V_ Z7 K7 K6 G7 H HA
   go_region_law (refine step_append rfl (.tmp 59) (.tmp 61) 55 rfl _ _ (by simp [Act.eval, Act.put]) (by simp [Act.eval, Act.put]) _ w9 Happ9.out ?_)
   all_goals
    go_wp2_with fail
    go_ret
    exact HD.out
end
structure Op8 where
 k : Int
 n : Int
 m : MsgS
abbrev op8A (o : Op8) (kv : Value) : Array Value := #[.int .i64 o.k, .int .i64 o.n, .int .i64 o.m.kind, .int .i64 o.m.queue, .int .i64 o.m.due, .int .i64 o.m.retry, .int .i64 o.m.ref, .int .i64 o.m.born, .string o.m.topic, .string o.m.tag, .string o.m.body, kv]
def Op8R : Reads Op8 := fun w cs o => ∃ kv, cs = (op8A o kv).toList ∧ MsgR w (msgA o.m kv).toList o.m ∧ -9223372036854775808 ≤ o.n ∧ o.n ≤ 9223372036854775807
theorem Op8R.lasts : Op8R.Lasts := fun _ _ _ _ h hc => by
 obtain ⟨kv, h1, h2, h3⟩ := h
 exact ⟨kv, h1, MsgR.lasts _ _ _ _ h2 hc, h3⟩
theorem opens_op8 : Opens Tryz.prog 91 Op8R := fun H enc w base sp held fuel cs x h => by
 obtain ⟨xs, n, _, _, hlen, hxl, hg⟩ := DataW.trod_struct Tryz.underlying91 h
 rw [show Tryz.prog.cellsOf 91 = 12 by kernel_rfl] at hlen
 match cs, hlen with
 | [c0, c1, c2, c3, c4, c5, c6, c7, c8, c9, c10, c11], _ =>
  simp only [List.size_toArray, List.length_cons, List.length_nil] at hxl
  have g0 := hg 0 _ rfl
  have g1 := hg 1 _ rfl
  have g2 := hg 2 _ rfl
  clear hg
  rw [List.getElem?_eq_getElem (by omega)] at g0 g1 g2
  obtain ⟨k, hk, hk2, hk3⟩ := opens_int Tryz.underlying3 _ _ _ _ _ _ _ _ _ g0
  obtain ⟨a, ha, ha2, ha3⟩ := opens_int Tryz.underlying3 _ _ _ _ _ _ _ _ _ g1
  obtain ⟨m, hm⟩ := opens_msg _ _ _ _ _ _ _ _ _ g2
  have n1 : Tryz.prog.cellsOf 3 = 1 := by kernel_rfl
  have n2 : Tryz.prog.cellsOf 62 = 10 := by kernel_rfl
  obtain ⟨kv, h1, h2⟩ := hm
  simp [n1, n2] at hk ha h1
  subst hk ha
  obtain ⟨rfl, rfl, rfl, rfl, rfl, rfl, rfl, rfl, rfl, rfl⟩ := h1
  exact ⟨⟨k, a, m⟩, _, rfl, ⟨_, rfl, h2⟩, ha2, ha3⟩
theorem RowsAt.ops8 {w : World} {v : Value} {l : List Op8} (h : RowsAt Op8R 12 w v l) : ∃ a cap, v = .slice a l.length cap ∧ l.length ≤ maxLen ∧ ∀ i (hi : i < l.length), ∃ b off kv, a = some ⟨b, off, none⟩ ∧ b < w.heap.size ∧
  (∀ j, j < 12 → w.cell? ⟨b, off + i * 12 + j, none⟩ = (op8A l[i] kv)[j]?) ∧ StrsAt w kv l[i].m.keys ∧ MsgZ l[i].m := by
 obtain ⟨a, cap, rfl, h2, h3, h4⟩ := h
 refine ⟨a, cap, rfl, by omega, fun i hi => ?_⟩
 obtain ⟨b, off, cs, e, hb, hl, hcell, hr0⟩ := h4 i hi
 unfold Op8R at hr0
 obtain ⟨kv, hr, hm, _⟩ := hr0
 obtain ⟨kv2, e2, hk, z1, z2, z3, z4, z5⟩ := hm
 have e3 : kv = kv2 := by simpa using e2
 subst e3
 obtain ⟨k1, k3, k2⟩ := RowsAt.strs hk
 refine ⟨b, off, kv, e, hb, fun j hj => ?_, k1, z1, z2, z3, k2, k3, z4, z5⟩
 rw [hcell j hj, hr]
 simp
def Great8 (l : List Op8) (w : World) (e : Ending) (w' : World) : Prop := ∃ g, e = .returned (.bool g) ∧ Calm w w' ∧ (g = false → l.length ≤ 80 ∧ ∀ o ∈ l, Small o.m)
set_option maxHeartbeats 8000000 in
theorem great8_any (v : Value) (l : List Op8) (w : World) (h : RowsAt Op8R 12 w v l) : Calls Tryz.prog 44 #[v] w (Great8 l w) := by
 obtain ⟨a, cap, rfl, hlm, hel⟩ := RowsAt.ops8 h
 have HE := box hel
 unfold maxLen at hlm
 clear h hel
 by_cases h80 : 80 < l.length
 ·have t1 : decide ((80 : Int) < (l.length : Int)) = true := decide_eq_true (by omega)
  go_enter Tryz.func44, Tryz.ntmps44
  go_wp2_with fail
  go_ret
  exact ⟨true, rfl, Calm.refl _, fun h => by cases h⟩
 have t1 : decide ((80 : Int) < (l.length : Int)) = false := decide_eq_false (by omega)
 have hl80 : l.length ≤ 80 := by omega
 clear h80
 go_enter Tryz.func44, Tryz.ntmps44
 go_wp2_with fail
 go_loopw [10] (fun i wr => ∃ k : Nat, k ≤ l.length ∧ i = .int .i64 k ∧ Box (Calm w wr) ∧ Box (∀ j (hj : j < k) (hj' : j < l.length), Small l[j].m)) (fun i _ => l.length - (intOf i).toNat)
 case atStart => exact ⟨0, Nat.zero_le _, rfl, box (Calm.refl _), box (fun j hj => absurd hj (Nat.not_lt_zero _))⟩
 case round =>
  obtain ⟨n, hn, rfl, HC, HS⟩ := hrel
  by_cases hnl : n < l.length
  ·obtain ⟨eb, eoff, kv, rfl, heb, hec, hks, hmz⟩ := HE.out n hnl
   have HSn := box (show Small l[n].m → ∀ j (hj : j < n + 1) (hj' : j < l.length), Small l[j].m from fun hs j hj hj' => by
    by_cases e : j = n
    ·subst e; exact hs
    ·exact HS.out j (by omega) hj')
   obtain ⟨⟨ok, on, m⟩, hm⟩ : ∃ o, l[n] = o := ⟨_, rfl⟩
   rw [hm] at hec hks hmz HSn
   simp only at hec hks hmz HSn
   have c0 := (HC.out.cell (p := ⟨eb, eoff + n * 12, none⟩) heb).trans (hec 0 (by decide))
   have c1 := (HC.out.cell (p := ⟨eb, eoff + n * 12 + 1, none⟩) heb).trans (hec 1 (by decide))
   have c2 := (HC.out.cell (p := ⟨eb, eoff + n * 12 + 2, none⟩) heb).trans (hec 2 (by decide))
   have c3 := (HC.out.cell (p := ⟨eb, eoff + n * 12 + 3, none⟩) heb).trans (hec 3 (by decide))
   have c4 := (HC.out.cell (p := ⟨eb, eoff + n * 12 + 4, none⟩) heb).trans (hec 4 (by decide))
   have c5 := (HC.out.cell (p := ⟨eb, eoff + n * 12 + 5, none⟩) heb).trans (hec 5 (by decide))
   have c6 := (HC.out.cell (p := ⟨eb, eoff + n * 12 + 6, none⟩) heb).trans (hec 6 (by decide))
   have c7 := (HC.out.cell (p := ⟨eb, eoff + n * 12 + 7, none⟩) heb).trans (hec 7 (by decide))
   have c8 := (HC.out.cell (p := ⟨eb, eoff + n * 12 + 8, none⟩) heb).trans (hec 8 (by decide))
   have c9 := (HC.out.cell (p := ⟨eb, eoff + n * 12 + 9, none⟩) heb).trans (hec 9 (by decide))
   have c10 := (HC.out.cell (p := ⟨eb, eoff + n * 12 + 10, none⟩) heb).trans (hec 10 (by decide))
   have c11 := (HC.out.cell (p := ⟨eb, eoff + n * 12 + 11, none⟩) heb).trans (hec 11 (by decide))
   simp only [List.getElem?_toArray, List.getElem?_cons_zero, List.getElem?_cons_succ] at c0 c1 c2 c3 c4 c5 c6 c7 c8 c9 c10 c11
   have hlt := Nat.lt_of_lt_of_le heb HC.out.size
   obtain ⟨ka, kcap, rfl, _⟩ := (hks.calm HC.out).uni
   obtain ⟨wa, hwa⟩ : ∃ wa, wr.alloc (.cells (op8A ⟨ok, on, m⟩ (.slice ka m.keys.length kcap)) 91) = wa := ⟨_, rfl⟩
   have Ja := box (show wa.heap[wr.heap.size]? = some (.cells (op8A ⟨ok, on, m⟩ (.slice ka m.keys.length kcap)) 91 (0, 0)) by rw [← hwa]; exact heap_new wr _)
   have Ca := box (show Calm wr wa by rw [← hwa]; exact (Calm.refl wr).alloc _)
   have hgr := box (Great_any wa.heap.size m (.slice ka m.keys.length kcap) (wa.alloc (.cells (msgA m (.slice ka m.keys.length kcap)) 62)) (heap_new _ _) ((hks.calm HC.out).calm (Ca.out.trans ((Calm.refl wa).alloc _))) hmz.2.2.2.2.1 ⟨hmz.2.2.1, hmz.1, hmz.2.1, hmz.2.2.2.1⟩)
   have d0 := cell_of Ja.out 0
   have d1 := cell_of Ja.out 1
   have d2 := cell_of Ja.out 2
   have d3 := cell_of Ja.out 3
   have d4 := cell_of Ja.out 4
   have d5 := cell_of Ja.out 5
   have d6 := cell_of Ja.out 6
   have d7 := cell_of Ja.out 7
   have d8 := cell_of Ja.out 8
   have d9 := cell_of Ja.out 9
   have d10 := cell_of Ja.out 10
   have d11 := cell_of Ja.out 11
   have dlt := heap_lt Ja.out
   have Cb := box ((HC.out.trans Ca.out).trans ((Calm.refl wa).alloc (.cells (msgA m (.slice ka m.keys.length kcap)) 62)))
   clear hks hmz hec hm Ja
   go_wp2_with fail
   refine hgr.out.mono ?_
   rintro e w5 ⟨gb, rfl, hc5, hsm⟩
   have C5 := box (Cb.out.trans hc5)
   clear hc5 hgr c0 c1 c2 c3 c4 c5 c6 c7 c8 c9 c10 c11 d0 d1 d2 d3 d4 d5 d6 d7 d8 d9 d10 d11 dlt hlt
   cases gb
   case true =>
    clear hsm
    go_wp2_with fail
    go_ret
    exact ⟨true, rfl, C5.out, fun h => by cases h⟩
   have HS2 := box (HSn.out (hsm rfl))
   clear hsm HSn
   go_wp2_with fail
   go_roundw
   case rel => exact ⟨n + 1, by omega, by go_num, C5, HS2⟩
   case measure => simp [intOf]; omega
  ·obtain rfl : n = l.length := by omega
   have hd := box (show Great8 l w (.returned (.bool false)) wr from ⟨false, rfl, HC.out, fun _ => ⟨hl80, fun o ho => by
    obtain ⟨j, hj, rfl⟩ := List.mem_iff_getElem.1 ho
    exact HS.out j hj hj⟩⟩)
   go_wp2_with fail
   go_ret
   exact hd.out
section
variable {W w w' w2 : World} {t t' p n g c k bg b : Nat} {S S' : TS} {G G' : Nat → Prop} {B B2 : ByteArray} {A : List Rq} {iv lv iv2 lv2 : Value}
theorem Py.new (h : Lt W t p c 0 S G w) (hps : S.ps = []) (hst : S.R.start = 0) :
  Py W t p w.heap.size c 0 S G ⟨#[]⟩ [] (.slice none 0 0) (.slice none 0 0) (w.alloc (.cells #[.string ⟨#[]⟩, .int .i64 0, .slice none 0 0, .slice none 0 0] 85)) := by
 obtain ⟨n, h1, h2⟩ := h.tp
 have hf := h.fin
 have hrec : S.recs = [] := by show tp.recs S.R.start S.ps = []; rw [hps]; rfl
 refine ⟨⟨n, h1.calm ((Calm.refl w).alloc _), h2⟩, h.able.mono (Nat.le_refl _), h.synced, h.tight, ⟨?_, ⟨by rfl, .inl ⟨rfl, rfl⟩⟩, ⟨by rfl, .inl ⟨rfl, rfl⟩⟩, h.owns.size, Nat.zero_le _, fun x hx => (by cases hx)⟩, ?_, by omega, by rw [hrec]; rfl, List.Pairwise.nil, fun x hx => (by cases hx), fun e => Nat.lt_irrefl _ (h.lt _ e), fun b hb => (by cases hb), fun b hb => (by cases hb), Nat.le_refl _⟩
 ·rw [hst]; exact heap_new w _
 ·show 0 = _; omega
def OpAt (w : World) (b : Nat) (ok on : Int) (m : MsgS) (kv : Value) : Prop := w.heap[b]? = some (.cells (op8A ⟨ok, on, m⟩ kv) 91 (0, 0))
theorem OpAt.calm {ok on : Int} {m : MsgS} {kv : Value} (h : OpAt w b ok on m kv) (hc : Calm w w') : OpAt w' b ok on m kv := heap_calm hc h
theorem OpAt.keeps {ok on : Int} {m : MsgS} {kv : Value} {F : Nat → Prop} (h : OpAt w b ok on m kv) (hk : Keeps F w w') (hF : ¬ F b) : OpAt w' b ok on m kv := (hk.block b (heap_lt h) hF).trans h
theorem OpAt.cells {ok on : Int} {m : MsgS} {kv : Value} (h : OpAt w b ok on m kv) :
  w.cell? ⟨b, 0, none⟩ = some (.int .i64 ok) ∧ w.cell? ⟨b, 1, none⟩ = some (.int .i64 on) ∧ w.cell? ⟨b, 2, none⟩ = some (.int .i64 m.kind) ∧ w.cell? ⟨b, 3, none⟩ = some (.int .i64 m.queue) ∧ w.cell? ⟨b, 4, none⟩ = some (.int .i64 m.due) ∧ w.cell? ⟨b, 5, none⟩ = some (.int .i64 m.retry) ∧
  w.cell? ⟨b, 6, none⟩ = some (.int .i64 m.ref) ∧ w.cell? ⟨b, 7, none⟩ = some (.int .i64 m.born) ∧ w.cell? ⟨b, 8, none⟩ = some (.string m.topic) ∧ w.cell? ⟨b, 9, none⟩ = some (.string m.tag) ∧ w.cell? ⟨b, 10, none⟩ = some (.string m.body) ∧ w.cell? ⟨b, 11, none⟩ = some kv ∧ b < w.heap.size :=
 ⟨cell_of h 0, cell_of h 1, cell_of h 2, cell_of h 3, cell_of h 4, cell_of h 5, cell_of h 6, cell_of h 7, cell_of h 8, cell_of h 9, cell_of h 10, cell_of h 11, heap_lt h⟩
theorem Py.not_new (h : Py W t p g c k S G B A iv lv w) (hb : w.heap.size ≤ b) : ¬ (G b ∨ b = g ∨ iv.ownBlock = some b ∨ lv.ownBlock = some b) := by
 obtain ⟨n, h1, _⟩ := h.tp
 rintro (e | e | e | e)
 ·have := h1.lt b e; omega
 ·have := heap_lt h.rt.obj; omega
 ·have := (h.rt.ids.lt b e).2; omega
 ·have := (h.rt.row.lt b e).2; omega
theorem cap_eq (cap : Int) : ∃ c : Nat, c ≤ 16777216 ∧ dk.new cap = dk.new (c : Int) :=
 ⟨(min (max cap 0) 16777216).toNat, by omega, by
  unfold dk.new
  have : min (max cap 0) 16777216 = min (max (((min (max cap 0) 16777216).toNat : Nat) : Int) 0) 16777216 := by omega
  exact congrArg (fun z => (⟨-1, false, z, [], []⟩ : DiskS)) this⟩
end
section
variable {W w w' w2 : World} {t t' p n g c k bg b : Nat} {S S' : TS} {G G' : Nat → Prop} {B B2 : ByteArray} {A : List Rq} {iv lv iv2 lv2 : Value}
def Hits (A : List Rq) (bg : Nat) (a : Int) : Prop := ∃ (i : Nat) (hi : i < A.length), (A[i].1 : Int) = a ∧ bg ≤ A[i].1
theorem Py.no_rec (h : Py W t p g c k S G B A iv lv w) {a : Int} (hn : ¬ Hits A S.R.start a) : ∀ x ∈ S.recs, (x.1 : Int) ≠ a := fun x hx e => by
 rw [h.recs, List.mem_map] at hx
 obtain ⟨y, hy, rfl⟩ := hx
 rw [List.mem_filter, decide_eq_true_eq] at hy
 obtain ⟨i, hi, rfl⟩ := List.getElem_of_mem hy.1
 exact hn ⟨i, hi, e, hy.2⟩
theorem Py.read_none (h : Py W t p g c k S G B A iv lv w) {a : Int} (hn : ¬ Hits A S.R.start a) : Calls Tryz.prog 34 #[ptrTo t, .int .i64 a] w fun e w' => Calm w w' ∧ e = .returned (.tuple #[.agg zeroA, .int .i64 (if 0 ≤ a ∧ a < S.R.start then 14 else 9)]) := by
 obtain ⟨n, hT, _⟩ := h.tp
 refine (Read_any a w hT h.able.alive).mono ?_
 rintro e w' ⟨hc, ⟨q1, q2, rfl⟩ | ⟨q1, q2, rfl⟩ | ⟨y, q1, q2, _⟩⟩
 ·exact ⟨hc, by rw [if_pos ⟨q1, q2⟩]⟩
 ·exact ⟨hc, by rw [if_neg q1]⟩
 ·exact absurd q2 (h.no_rec hn y q1)
theorem Py.find_none (h : Py W t p g c k S G B A iv lv w) {a : Int} (hn : ¬ Hits A S.R.start a) : Calls Tryz.prog 48 #[ptrTo g, .int .i64 a] w fun e w' => e = .returned (.int .i64 (-1)) ∧ Calm w w' := by
 refine (rFind_any _ h.rt).mono ?_
 rintro e w' ⟨⟨j, hj, h1, h2, rfl⟩ | ⟨h1, rfl⟩, h3⟩
 ·exact absurd ⟨j, hj, h1, by omega⟩ hn
 ·exact ⟨rfl, h3⟩
theorem Py.size_none (h : Py W t p g c k S G B A iv lv w) {a : Int} (hn : ¬ Hits A S.R.start a) : Calls Tryz.prog 30 #[ptrTo t, .int .i64 a] w fun e w' => e = .returned (.int .i64 0) ∧ w = w' := by
 obtain ⟨n, hT, _⟩ := h.tp
 have h3 : sizeOf' S.recs a = 0 := by
  unfold sizeOf'
  cases hr : recOf S.recs a with
  | none => rfl
  | some x => exact absurd (rec_some hr).2 (h.no_rec hn x (rec_some hr).1)
 have := Size_any a w hT
 rw [h3] at this
 exact this
theorem Py.okm (h : Py W t p g c k S G B A iv lv w) {i : Nat} (hi : i < A.length) (hs : S.R.start ≤ A[i].1) : okM A[i].2.1 := by
 obtain ⟨n, hT, _⟩ := h.tp
 have hm : numR A[i] ∈ S.recs := h.mem.2 ⟨A[i], List.getElem_mem hi, hs, rfl⟩
 have := recs_range S.ps _ hT.fit (numR A[i]) hm
 exact ⟨this.2.2.1, this.2.2.2.1⟩
theorem rPut_ok {m : MsgS} {kv : Value} (hk : StrsAt w kv m.keys) (hok : okM m) : Calls Tryz.prog 49 #[.agg (msgA m kv)] w fun e w' => e = .returned (.string (recB m)) ∧ Calm w w' := by
 have h := rPut_any m kv w hk hok.1
 have hpE : (putS RightP m).1 = recB m := by unfold putS; rw [if_neg (fun h => h hok.1), if_neg hok.2]
 rwa [hpE] at h
end
end Go.Proofs.YtjpokaifbnkmhaaGreatDoor.tp
