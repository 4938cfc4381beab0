/- Lemmas for this claim. -/
import Derived.Test.YtjpokaifbnkmhaaGreatDoorPk33
set_option maxRecDepth 100000
namespace Go.Proofs.YtjpokaifbnkmhaaGreatDoor.tp
open Go.ChangeShapes Go.WideShapes Go.ChangeAt Go.RowKit Go.ChangeMaps
open rc oc cr dk sg
section
variable {W w w' : World} {t p n r sb mb : Nat} {D D' : DiskS} {R R' : RowS} {L : List (Nat × MsgS)} {last : Int} {F F' G G' : Nat → Prop} {v v' iv : Value} {S S' : TS} {b : List UInt8}
theorem cost_laid {e : Nat} {m : MsgS} (h : okM m) : costP e m = (flat (laidP e m)).length := by unfold costP; rw [if_pos h]
theorem Kin.trans {A B C : RowS} (h : Kin A B) (g : Kin B C) : Kin A C := ⟨g.head.trans h.head, g.size.trans h.size, g.start.trans h.start, g.synced.trans h.synced⟩
theorem done_one {m : MsgS} {k : Nat} (h : Tp W t p n S G w) (hok : okM m) (hg : goesIn S.R.fin (recB m).size) (hd : S.D.down = false) (hroom : (costP S.R.fin m : Int) ≤ S.D.cap - S.D.size) (hk : k ≤ n + 2)
  (hT : TpIn W w' t p k r sb mb D' R' (S.recs ++ [(S.R.fin, m)]) m.born F' v' iv) (hA : AppOk S.D S.R (flat S.ps) (recB m) D' R') (hS : Step G w (tfoot t r sb mb F' v' iv) w') : AppDone W t p n S m G w (.returned (.tuple #[.int .i64 (S.R.fin : Int), .int .i64 0])) w' := by
 have he := h.end_ok
 have hsz := h.holds.size
 have hp : laidP S.R.fin m = [.one m] := by unfold laidP; rw [if_pos hg]
 have hc : costP S.R.fin m = (recB m).size := by rw [cost_laid hok, laid_len he, if_pos hg]
 have hid : idP S.R.fin m = S.R.fin := by unfold idP; rw [if_pos hg]
 have hr : recs R'.start (S.ps ++ [.one m]) = S.recs ++ [(S.R.fin, m)] := by
  rw [hA.kin.start, recs_one, hsz]; rfl
 refine ⟨⟨D', R', S.ps ++ [.one m], m.born⟩, tfoot t r sb mb F' v' iv, ⟨⟨r, sb, mb, F', v', iv, ?_, fun b => Iff.rfl⟩, ?_, ?_, hA.kin.size.trans h.size, hA.kin.head.trans h.head, ?_⟩, hS, .inr (.inr (.inr (.inr ⟨hok, hd, hroom, by rw [hid], ?_⟩)))⟩
 ·show TpIn W w' t p (n + 2) r sb mb D' R' (recs R'.start (S.ps ++ [.one m])) m.born F' v' iv
  rw [hr]
  exact ⟨hT.seg.mono hk, hT.obj, hT.sums, hT.ids, hT.sizes, hT.apart, hT.mF, hT.tW, hT.sW, hT.mW⟩
 ·show Holds D' R' (flat (S.ps ++ [.one m]))
  rw [flat_snoc]
  exact hA.holds
 ·show FitL R'.start (S.ps ++ [.one m])
  rw [hA.kin.start, fitL_snoc, ← hsz]
  exact ⟨h.fit, one_fit hok hg⟩
 ·show BornIs (recs R'.start (S.ps ++ [.one m])) m.born
  rw [hr]
  exact BornIs.snoc _ _
 ·exact ⟨by rw [hp], rfl, hA.kin, by rw [hc]; exact hA.fin, hA.tight, hA.cnt, hA.cap, by rw [← h.head]; exact hA.only, hA.down.2, by have := hA.few; simp only; omega, hA.names, by rw [hc]; exact hA.size, hA.alive⟩
theorem done_two {m : MsgS} {k : Nat} {D1 : DiskS} {R1 : RowS} (h : Tp W t p n S G w) (hok : okM m) (hg : ¬ goesIn S.R.fin (recB m).size) (hd : S.D.down = false) (hroom : (costP S.R.fin m : Int) ≤ S.D.cap - S.D.size) (hk : k ≤ n + 2)
  (hA1 : AppOk S.D S.R (flat S.ps) (fillB (roomAt S.R.fin)) D1 R1) (hT : TpIn W w' t p k r sb mb D' R' (S.recs ++ [(R1.fin, m)]) m.born F' v' iv) (hA : AppOk D1 R1 (flat (S.ps ++ [.fill (roomAt S.R.fin)])) (recB m) D' R') (hS : Step G w (tfoot t r sb mb F' v' iv) w') : AppDone W t p n S m G w (.returned (.tuple #[.int .i64 (R1.fin : Int), .int .i64 0])) w' := by
 have he := h.end_ok
 have hsz := h.holds.size
 have hrm : 3 ≤ roomAt S.R.fin := by unfold roomAt; omega
 have hp : laidP S.R.fin m = [.fill (roomAt S.R.fin), .one m] := by unfold laidP; rw [if_neg hg]
 have hc : costP S.R.fin m = roomAt S.R.fin + (recB m).size := by rw [cost_laid hok, laid_len he, if_neg hg]
 have hf1 : R1.fin = S.R.fin + roomAt S.R.fin := by rw [hA1.fin, fillB_size hrm]
 have hid : idP S.R.fin m = R1.fin := by unfold idP; rw [if_neg hg, hf1]
 have hps : S.ps ++ [.fill (roomAt S.R.fin), .one m] = S.ps ++ [.fill (roomAt S.R.fin)] ++ [.one m] := by rw [List.append_assoc]; rfl
 have hst : R'.start = S.R.start := hA.kin.start.trans hA1.kin.start
 have hfl : S.R.start + (flat (S.ps ++ [.fill (roomAt S.R.fin)])).length = R1.fin := by
  rw [flat_snoc, List.length_append, hf1, hsz]
  show _ + (_ + (Pc.fill _).len) = _
  rw [Pc.len_fill (by rw [← hsz]; exact hrm)]; omega
 have hr : recs R'.start (S.ps ++ [.fill (roomAt S.R.fin), .one m]) = S.recs ++ [(R1.fin, m)] := by
  rw [hst, hps, recs_one, recs_fill, hfl]; rfl
 have hal : D'.size = S.D.size + costP S.R.fin m := by
  rw [hA.size, hA1.size, hc, fillB_size hrm]; omega
 refine ⟨⟨D', R', S.ps ++ [.fill (roomAt S.R.fin), .one m], m.born⟩, tfoot t r sb mb F' v' iv, ⟨⟨r, sb, mb, F', v', iv, ?_, fun b => Iff.rfl⟩, ?_, ?_, (hA.kin.size.trans hA1.kin.size).trans h.size, (hA.kin.head.trans hA1.kin.head).trans h.head, ?_⟩, hS, .inr (.inr (.inr (.inr ⟨hok, hd, hroom, by rw [hid], ?_⟩)))⟩
 ·show TpIn W w' t p (n + 2) r sb mb D' R' (recs R'.start (S.ps ++ [.fill (roomAt S.R.fin), .one m])) m.born F' v' iv
  rw [hr]
  exact ⟨hT.seg.mono hk, hT.obj, hT.sums, hT.ids, hT.sizes, hT.apart, hT.mF, hT.tW, hT.sW, hT.mW⟩
 ·show Holds D' R' (flat (S.ps ++ [.fill (roomAt S.R.fin), .one m]))
  rw [hps, flat_snoc]
  exact hA.holds
 ·show FitL R'.start (S.ps ++ [.fill (roomAt S.R.fin), .one m])
  rw [hst, hps, fitL_snoc, fitL_snoc, hfl, ← hsz]
  refine ⟨⟨h.fit, fill_fit he⟩, one_fit hok (one_fresh hok ?_)⟩
  rw [hf1]; exact behind_fill _
 ·show BornIs (recs R'.start (S.ps ++ [.fill (roomAt S.R.fin), .one m])) m.born
  rw [hr]
  exact BornIs.snoc _ _
 ·refine ⟨by rw [hp], rfl, hA1.kin.trans hA.kin, ?_, hA.tight, hA.cnt, hA.cap.trans hA1.cap, ?_, hA.down.2, ?_, fun hn => hA.names (hA1.names hn), hal, fun ha => hA.alive (hA1.alive ha)⟩
  ·show R'.fin = _
   rw [hA.fin, hf1, hc]; omega
  ·have h1 := hA1.only
   have h2 := hA.only
   rw [hA1.kin.head] at h2
   rw [← h.head]
   exact h1.trans h2
  ·have h1 := hA1.few
   have h2 := hA.few
   show D'.files.length ≤ _
   omega
theorem fell_one {m : MsgS} {k : Nat} (h : Tp W t p n S G w) (hok : okM m) (hd : S.D.down = false) (hroom : (costP S.R.fin m : Int) ≤ S.D.cap - S.D.size) (hk : k ≤ n + 2)
  (hT : TpIn W w' t p k r sb mb D' R' S.recs S.last F' v' iv) (hA : AppNo S.D S.R (flat S.ps) D' R') (hS : Step G w (tfoot t r sb mb F' v' iv) w') : AppDone W t p n S m G w (.returned (.tuple #[.int .i64 0, .int .i64 8])) w' := by
 have hr : recs R'.start S.ps = S.recs := by rw [hA.kin.start]; rfl
 refine ⟨⟨D', R', S.ps, S.last⟩, tfoot t r sb mb F' v' iv, ⟨⟨r, sb, mb, F', v', iv, ?_, fun b => Iff.rfl⟩, hA.holds, ?_, hA.kin.size.trans h.size, hA.kin.head.trans h.head, ?_⟩, hS, .inr (.inr (.inr (.inl ⟨hok, hd, hroom, rfl, ?_⟩)))⟩
 ·show TpIn W w' t p (n + 2) r sb mb D' R' (recs R'.start S.ps) S.last F' v' iv
  rw [hr]
  exact ⟨hT.seg.mono hk, hT.obj, hT.sums, hT.ids, hT.sizes, hT.apart, hT.mF, hT.tW, hT.sW, hT.mW⟩
 ·show FitL R'.start S.ps
  rw [hA.kin.start]
  exact h.fit
 ·show BornIs (recs R'.start S.ps) S.last
  rw [hr]
  exact h.born
 ·exact ⟨.inl rfl, rfl, hA.kin, hA.cap, by rw [← h.head]; exact hA.only, hA.down, by have := hA.few; simp only; omega, hA.names, hA.dead⟩
theorem fell_two {m : MsgS} {k : Nat} {D1 : DiskS} {R1 : RowS} (h : Tp W t p n S G w) (hok : okM m) (hg : ¬ goesIn S.R.fin (recB m).size) (hd : S.D.down = false) (hroom : (costP S.R.fin m : Int) ≤ S.D.cap - S.D.size) (hk : k ≤ n + 2)
  (hA1 : AppOk S.D S.R (flat S.ps) (fillB (roomAt S.R.fin)) D1 R1) (hT : TpIn W w' t p k r sb mb D' R' S.recs S.last F' v' iv) (hA : AppNo D1 R1 (flat (S.ps ++ [.fill (roomAt S.R.fin)])) D' R') (hS : Step G w (tfoot t r sb mb F' v' iv) w') : AppDone W t p n S m G w (.returned (.tuple #[.int .i64 0, .int .i64 8])) w' := by
 have he := h.end_ok
 have hsz := h.holds.size
 have hst : R'.start = S.R.start := hA.kin.start.trans hA1.kin.start
 have hr : recs R'.start (S.ps ++ [.fill (roomAt S.R.fin)]) = S.recs := by rw [hst, recs_fill]; rfl
 refine ⟨⟨D', R', S.ps ++ [.fill (roomAt S.R.fin)], S.last⟩, tfoot t r sb mb F' v' iv, ⟨⟨r, sb, mb, F', v', iv, ?_, fun b => Iff.rfl⟩, hA.holds, ?_, (hA.kin.size.trans hA1.kin.size).trans h.size, (hA.kin.head.trans hA1.kin.head).trans h.head, ?_⟩, hS, .inr (.inr (.inr (.inl ⟨hok, hd, hroom, rfl, ?_⟩)))⟩
 ·show TpIn W w' t p (n + 2) r sb mb D' R' (recs R'.start (S.ps ++ [.fill (roomAt S.R.fin)])) S.last F' v' iv
  rw [hr]
  exact ⟨hT.seg.mono hk, hT.obj, hT.sums, hT.ids, hT.sizes, hT.apart, hT.mF, hT.tW, hT.sW, hT.mW⟩
 ·show FitL R'.start (S.ps ++ [.fill (roomAt S.R.fin)])
  rw [hst, fitL_snoc, ← hsz]
  exact ⟨h.fit, fill_fit he⟩
 ·show BornIs (recs R'.start (S.ps ++ [.fill (roomAt S.R.fin)])) S.last
  rw [hr]
  exact h.born
 ·refine ⟨.inr ⟨hg, rfl⟩, rfl, hA1.kin.trans hA.kin, hA.cap.trans hA1.cap, ?_, hA.down, ?_, fun hn => hA.names (hA1.names hn), fun ha => hA.dead (hA1.alive ha)⟩
  ·have h1 := hA1.only
   have h2 := hA.only
   rw [hA1.kin.head] at h2
   rw [← h.head]
   exact h1.trans h2
  ·have h1 := hA1.few
   have h2 := hA.few
   show D'.files.length ≤ _
   omega
set_option maxHeartbeats 16000000 in
theorem Append_any (m : MsgS) (kv : Value) (w : World) (h : Tp W t p n S G w) (hm : Fair w m kv) (hn : n ≤ 999980) (hfin : S.R.fin ≤ 900000) :
  Calls Tryz.prog 29 #[ptrTo t, .agg (msgA m kv)] w (AppDone W t p n S m G w) := by
 obtain ⟨r, sb, mb, F, v, iv, hT, hG⟩ := h.at_
 have he := h.end_ok
 have hgood := hT.seg.disk.good
 have H := box h
 have Hm := box hm
 obtain ⟨ka, kcap, hkv, _⟩ := hm.keys.uni
 subst hkv
 obtain ⟨W1, hW1⟩ : ∃ W1, w.alloc (.cells (msgA m (.slice ka m.keys.length kcap)) 62) = W1 := ⟨_, rfl⟩
 have J0 := box (show W1.heap[w.heap.size]? = some (.cells (msgA m (.slice ka m.keys.length kcap)) 62 (0, 0)) by rw [← hW1]; exact heap_new w _)
 have C0 := box (show Calm w W1 by rw [← hW1]; exact (Calm.refl w).alloc _)
 have hlaid := box (laid_any m _ W1 (hT.calm C0.out) h.size he (hm.calm C0.out))
 have hnil := box (show ¬ okM m → fillOf S.R.fin m = ⟨#[]⟩ ∧ bytesOf m = ⟨#[]⟩ from fun hok => by unfold fillOf bytesOf; rw [if_neg hok, if_neg hok]; exact ⟨rfl, rfl⟩)
 by_cases hok : okM m
 ·have hcost := cost_of m he
  have hb2 : bytesOf m = recB m := by unfold bytesOf; rw [if_pos hok]
  have hbd := recB_bounds hok.1 hok.2
  have hfg : goesIn S.R.fin (recB m).size → fillOf S.R.fin m = ⟨#[]⟩ := fun hg => by unfold fillOf; rw [if_pos hok, if_pos hg]
  have hfn : ¬ goesIn S.R.fin (recB m).size → fillOf S.R.fin m = fillB (roomAt S.R.fin) := fun hg => by unfold fillOf; rw [if_pos hok, if_neg hg]
  have hrm : 3 ≤ roomAt S.R.fin ∧ roomAt S.R.fin ≤ 1024 := by unfold roomAt; omega
  rw [hb2, decide_eq_true hok] at hlaid
  rw [hb2] at hcost
  have hRoom := room_at h.holds.ok h.size
  have hlt := hT.lt
  have hdown := box (fun W' (hc : Calm W1 W') => Down_any W' (hT.calm (C0.out.trans hc)).seg.disk.lies)
  have hroomc := box (fun W' (hc : Calm W1 W') => dk.Room_any W' (hT.calm (C0.out.trans hc)).seg.disk.lies (by have := hgood.size; have := hgood.cap; omega) hgood.cap)
  have hcs := box (fun W' (hc : Calm W1 W') => hT.calm (C0.out.trans hc))
  have hS0 := box (show ∀ w3 w4 F2 v2 iv2, Calm W1 w3 → Step (tfoot t r sb mb F v iv) w3 (tfoot t r sb mb F2 v2 iv2) w4 → Step G w (tfoot t r sb mb F2 v2 iv2) w4 from fun w3 w4 F2 v2 iv2 hc hs => Step.iff (Step.calm_left (C0.out.trans hc) hs) hG (fun _ => Iff.rfl))
  have hJ := box (show ∀ w3 w4 F2 v2 iv2, Calm W1 w3 → Step (tfoot t r sb mb F v iv) w3 (tfoot t r sb mb F2 v2 iv2) w4 → w4.heap[w.heap.size]? = some (.cells (msgA m (.slice ka m.keys.length kcap)) 62 (0, 0)) from fun w3 w4 F2 v2 iv2 hc hs =>
   (hs.keeps.block _ (heap_lt (heap_calm hc J0.out)) (fun e => Nat.lt_irrefl _ (hlt _ e))).trans (heap_calm hc J0.out))
  have hnew := box (show ∀ x ∈ S.recs, x.1 ≠ S.R.fin ∧ (∀ a, S.R.fin ≤ a → x.1 ≠ a) from fun x hx => by
   have h1 := recs_range S.ps _ h.fit x hx
   have h2 := recB_bounds h1.2.2.1 h1.2.2.2.1
   have h3 := h.holds.size
   exact ⟨by omega, fun a ha => by omega⟩)
  have hfew := h.few.2
  have Hok := box hok
  obtain ⟨iva, ivn, ivc, rfl⟩ := row_slice hT.ids
  have HT := box hT
  have c0 := cell_of J0.out 0
  have c1 := cell_of J0.out 1
  have c2 := cell_of J0.out 2
  have c3 := cell_of J0.out 3
  have c4 := cell_of J0.out 4
  have c5 := cell_of J0.out 5
  have c6 := cell_of J0.out 6
  have c7 := cell_of J0.out 7
  have c8 := cell_of J0.out 8
  have c9 := cell_of J0.out 9
  have clt := heap_lt J0.out
  have Hcost := box hcost
  obtain ⟨f, hfE⟩ : ∃ f, fillOf S.R.fin m = f := ⟨_, rfl⟩
  obtain ⟨sB, hsE⟩ : ∃ x, recB m = x := ⟨_, rfl⟩
  have HsE := box hsE
  have HFG := box hfg
  have HFN := box hfn
  have hfz : f.size ≤ 1024 := by
   by_cases hg : goesIn S.R.fin (recB m).size
   ·rw [← hfE, hfg hg]; decide
   ·rw [← hfE, hfn hg, fillB_size hrm.1]; exact hrm.2
  rw [hfE, hsE] at hlaid Hcost
  rw [hsE] at hbd
  rw [hfE] at HFG HFN
  have hcap := hgood.cap
  have hsize := hgood.size
  clear hnil hok hfg hfn hfE hsE hcost hb2 hT hG he hgood h hm hlt
  go_enter Tryz.func29, Tryz.ntmps29
  go_wp2_with fail
  (try rw [hW1])
  refine hlaid.out.mono ?_
  rintro e w2 ⟨rfl, hc2⟩
  have HC2 := box hc2
  clear hc2 hlaid c0 c1 c2 c3 c4 c5 c6 c7 c8 c9 clt
  obtain ⟨g0, g1, g2, g3, g4, glt⟩ := (hcs.out _ HC2.out).cells
  have d0 := (hcs.out _ HC2.out).seg.row.cells.1
  have dlt := heap_lt (hcs.out _ HC2.out).seg.row.at_
  by_cases hd : S.D.down = true
  ·rw [hd] at hdown
   have Hres := box (show AppT S m (.returned (.tuple #[.int .i64 0, .int .i64 8])) S from .inr (.inl ⟨Hok.out, hd, rfl, rfl⟩))
   clear hd
   go_wp2_with fail
   refine (hdown.out _ HC2.out).mono ?_
   rintro e w3 ⟨rfl, rfl⟩
   go_wp2_with fail
   go_ret2
   exact AppDone.same H.out (C0.out.trans HC2.out) Hres.out
  have hdf : S.D.down = false := by simpa using hd
  have Hdf := box hdf
  rw [hdf] at hdown
  clear hd hdf
  go_wp2_with fail
  refine (hdown.out _ HC2.out).mono ?_
  rintro e w3 ⟨rfl, rfl⟩
  go_wp2_with fail
  refine (hroomc.out _ HC2.out).mono ?_
  rintro e w3 ⟨rfl, hc3⟩
  have HC3 := box (HC2.out.trans hc3)
  clear hc3 hroomc hdown g0 g1 g2 g3 g4 glt d0 dlt
  obtain ⟨g0, g1, g2, g3, g4, glt⟩ := (hcs.out _ HC3.out).cells
  have k1 : IntKind.i64.wrap ((f.size : Int) + (sB.size : Int)) = (f.size : Int) + (sB.size : Int) := IntWalk.i64_in _ (by omega)
  by_cases hfull : S.D.cap - S.D.size < (f.size : Int) + (sB.size : Int)
  ·have t1 : decide (S.D.cap - S.D.size < (f.size : Int) + (sB.size : Int)) = true := decide_eq_true hfull
   have Hres := box (show AppT S m (.returned (.tuple #[.int .i64 0, .int .i64 7])) S from .inr (.inr (.inl ⟨Hok.out, Hdf.out, by rw [Hcost.out]; omega, rfl, rfl⟩)))
   clear hfull
   go_wp2_with fail
   go_ret2
   exact AppDone.same H.out (C0.out.trans HC3.out) Hres.out
  have t1 : decide (S.D.cap - S.D.size < (f.size : Int) + (sB.size : Int)) = false := decide_eq_false hfull
  have Hroom := box (show (costP S.R.fin m : Int) ≤ S.D.cap - S.D.size by rw [Hcost.out]; omega)
  have hroom3 : (f.size : Int) + (sB.size : Int) ≤ S.D.cap - S.D.size := by omega
  clear hfull
  by_cases hg : goesIn S.R.fin (recB m).size
  ·have hf0 := HFG.out hg
   subst hf0
   have hz0 : (⟨#[]⟩ : ByteArray).size = 0 := rfl
   rw [hz0] at hroom3
   have t2 : decide (S.D.cap - S.D.size < (sB.size : Int)) = false := decide_eq_false (by omega)
   have happ := box (row_append (hcs.out _ HC3.out) H.out.holds sB (by omega) (by rw [hRoom]; have := hg; rw [HsE.out] at this; unfold goesIn at this; omega) (fun _ => by omega) (by omega) H.out.head (by omega))
   have Hg := box hg
   clear hg HFG HFN t1 k1 hroom3 hz0
   go_wp2_with fail
   refine happ.out.mono ?_
   rintro e w4 ⟨E, R', F', v', hT4, hS4, hres⟩
   have HS4 := box (hS0.out _ _ _ _ _ HC3.out hS4)
   have HT4 := box hT4
   have J4 := box (hJ.out _ _ _ _ _ HC3.out hS4)
   clear hT4 hS4 happ g0 g1 g2 g3 g4 glt
   rcases hres with ⟨rfl, hA⟩ | ⟨rfl, hA⟩
   ·have HA := box hA
    clear hA
    go_wp2_with fail
    go_ret2
    exact fell_one H.out Hok.out Hdf.out Hroom.out (by omega) HT4.out HA.out HS4.out
   ·have HA := box hA
    have hnote := box (note_any m (.slice ka m.keys.length kcap) S.R.fin w4 HT4.out Hok.out.2 (fun x hx => (hnew.out x hx).1) (by omega))
    rw [HsE.out] at hnote
    clear hA
    have c0 := cell_of J4.out 0
    have c1 := cell_of J4.out 1
    have c2 := cell_of J4.out 2
    have c3 := cell_of J4.out 3
    have c4 := cell_of J4.out 4
    have c5 := cell_of J4.out 5
    have c6 := cell_of J4.out 6
    have c7 := cell_of J4.out 7
    have c8 := cell_of J4.out 8
    have c9 := cell_of J4.out 9
    have clt := heap_lt J4.out
    go_wp2_with fail
    refine hnote.out.mono ?_
    rintro e w5 ⟨rfl, iv5, hT5, hS5⟩
    have HT5 := box hT5
    have HS5 := box (Step.trans HS4.out hS5)
    clear hT5 hS5 hnote c0 c1 c2 c3 c4 c5 c6 c7 c8 c9 clt
    go_wp2_with fail
    go_ret2
    exact done_one H.out Hok.out Hg.out Hdf.out Hroom.out (by omega) HT5.out (by rw [HsE.out]; exact HA.out) HS5.out
  ·have hf0 := HFN.out hg
   obtain ⟨hrm1, hrm2⟩ := hrm
   have hfs : f.size = roomAt S.R.fin := by rw [hf0, fillB_size hrm1]
   have happ := box (row_append (hcs.out _ HC3.out) H.out.holds f (by omega) (by rw [hRoom]; omega) (fun _ => by omega) (by omega) H.out.head (by omega))
   have Hg := box hg
   have Hf0 := box hf0
   have s1 : f.toList.isEmpty = false := by
    rw [Lib.toList_data, List.isEmpty_eq_false_iff]
    intro e
    have := congrArg List.length e
    rw [size_toList] at this
    have h2 : f.size = 0 := this
    omega
   have s2 : (f.toList == []) = false := by
    rw [beq_eq_false_iff_ne]
    intro e
    rw [e] at s1
    cases s1
   have Hfs := box hfs
   clear hg hf0 HFG HFN hfs
   go_wp2_with fail
   refine happ.out.mono ?_
   rintro e w4 ⟨E, R', F', v', hT4, hS4, hres⟩
   have HS4 := box (hS0.out _ _ _ _ _ HC3.out hS4)
   have HT4 := box hT4
   have J4 := box (hJ.out _ _ _ _ _ HC3.out hS4)
   have Hlt4 := box hT4.lt
   have hne4 := box (show ¬ tfoot t r sb mb F' v' (.slice iva ivn ivc) w.heap.size from fun e => by
    rcases hS4.foot _ e with h1 | h1
    ·exact Nat.lt_irrefl _ (HT.out.lt _ h1)
    ·have h2 := HC3.out.size
     have h3 := C0.out.size
     have h4 := heap_lt J0.out
     omega)
   clear hT4 hS4 happ g0 g1 g2 g3 g4 glt
   rcases hres with ⟨rfl, hA⟩ | ⟨rfl, hA⟩
   ·have HA := box hA
    clear hA
    go_wp2_with fail
    go_ret2
    exact fell_one H.out Hok.out Hdf.out Hroom.out (by omega) HT4.out HA.out HS4.out
   ·rw [Hf0.out] at hA
    have hfl : flat S.ps ++ (fillB (roomAt S.R.fin)).data.toList = flat (S.ps ++ [.fill (roomAt S.R.fin)]) := by rw [flat_snoc]; rfl
    have hR4 : R'.room = 1024 := by
     rw [room_at hA.holds.ok (hA.kin.size.trans H.out.size), hA.fin, fillB_size hrm1]
     unfold roomAt
     omega
    have hA2 := hA
    have hh := hA.holds
    rw [hfl] at hh
    have hf4 : R'.fin = S.R.fin + roomAt S.R.fin := by rw [hA.fin, fillB_size hrm1]
    have happ := box (row_append HT4.out hh sB (by omega) (by omega) (fun _ => by
     have h1 := hA.size
     have h2 := hA.cap
     have h3 := Hfs.out
     rw [fillB_size hrm1] at h1
     omega) (by omega) (hA.kin.head.trans H.out.head) (by omega))
    have HA1 := box hA2
    have hgr : R'.fin ≤ 1000000 ∧ S.R.fin ≤ R'.fin := by omega
    have Hh4 := box hh
    clear hA hA2 hh hf4 hR4 hfl
    obtain ⟨g0, g1, g2, g3, g4, glt⟩ := HT4.out.cells
    have d0 := HT4.out.seg.row.cells.1
    go_wp2_with fail
    refine happ.out.mono ?_
    rintro e w5 ⟨E2, R2, F2, v2, hT5, hS5, hres⟩
    have HS5 := box (Step.trans HS4.out hS5)
    have HT5 := box hT5
    have J5 := box ((hS5.keeps.block _ (heap_lt J4.out) hne4.out).trans J4.out)
    clear hT5 hS5 happ g0 g1 g2 g3 g4 glt d0
    rcases hres with ⟨rfl, hA⟩ | ⟨rfl, hA⟩
    ·have HA := box hA
     clear hA
     go_wp2_with fail
     go_ret2
     exact fell_two H.out Hok.out Hg.out Hdf.out Hroom.out (by omega) HA1.out HT5.out HA.out HS5.out
    ·have HA := box hA
     have hnote := box (note_any m (.slice ka m.keys.length kcap) R'.fin w5 HT5.out Hok.out.2 (fun x hx => (hnew.out x hx).2 _ hgr.2) (by omega))
     rw [HsE.out] at hnote
     clear hA
     have c0 := cell_of J5.out 0
     have c1 := cell_of J5.out 1
     have c2 := cell_of J5.out 2
     have c3 := cell_of J5.out 3
     have c4 := cell_of J5.out 4
     have c5 := cell_of J5.out 5
     have c6 := cell_of J5.out 6
     have c7 := cell_of J5.out 7
     have c8 := cell_of J5.out 8
     have c9 := cell_of J5.out 9
     have clt := heap_lt J5.out
     go_wp2_with fail
     refine hnote.out.mono ?_
     rintro e w6 ⟨rfl, iv6, hT6, hS6⟩
     have HT6 := box hT6
     have HS6 := box (Step.trans HS5.out hS6)
     clear hT6 hS6 hnote c0 c1 c2 c3 c4 c5 c6 c7 c8 c9 clt
     go_wp2_with fail
     go_ret2
     exact done_two H.out Hok.out Hg.out Hdf.out Hroom.out (by omega) HA1.out HT6.out (by rw [HsE.out]; exact HA.out) HS6.out
 ·obtain ⟨e1, e2⟩ := hnil.out hok
  rw [e1, e2, decide_eq_false hok] at hlaid
  have Hres := box (show AppT S m (.returned (.tuple #[.int .i64 0, .int .i64 1])) S from .inl ⟨hok, rfl, rfl⟩)
  clear hnil hok e1 e2 hT hG he hgood h hm
  obtain ⟨kd, q, du, rt, rf, bn, tp, tg, bd, ks⟩ := m
  have c0 := cell_of J0.out 0
  have c1 := cell_of J0.out 1
  have c2 := cell_of J0.out 2
  have c3 := cell_of J0.out 3
  have c4 := cell_of J0.out 4
  have c5 := cell_of J0.out 5
  have c6 := cell_of J0.out 6
  have c7 := cell_of J0.out 7
  have c8 := cell_of J0.out 8
  have c9 := cell_of J0.out 9
  have hlt := heap_lt J0.out
  go_enter Tryz.func29, Tryz.ntmps29
  go_wp2_with fail
  (try rw [hW1])
  refine hlaid.out.mono ?_
  rintro e w2 ⟨rfl, hc2⟩
  have HC2 := box (C0.out.trans hc2)
  clear hc2 hlaid
  go_wp2_with fail
  go_ret2
  exact AppDone.same H.out HC2.out Hres.out
end
end Go.Proofs.YtjpokaifbnkmhaaGreatDoor.tp

namespace Go.Proofs.YtjpokaifbnkmhaaGreatDoor.tp
open Go.ChangeShapes Go.WideShapes Go.ChangeAt Go.RowKit Go.ChangeMaps Go.MapKept
open rc oc cr dk sg
def recOf (L : List (Nat × MsgS)) (k : Int) : Option (Nat × MsgS) := L.find? fun x => decide ((x.1 : Int) = k)
def sizeOf' (L : List (Nat × MsgS)) (k : Int) : Nat := match recOf L k with | some x => (recB x.2).size | none => 0
theorem rec_some {L : List (Nat × MsgS)} {k : Int} {x : Nat × MsgS} (h : recOf L k = some x) : x ∈ L ∧ (x.1 : Int) = k := ⟨List.mem_of_find?_eq_some h, by have := List.find?_some h; simpa using this⟩
theorem rec_none {L : List (Nat × MsgS)} {k : Int} (h : recOf L k = none) : ∀ x ∈ L, (x.1 : Int) ≠ k := fun x hx => by
 have := List.find?_eq_none.1 h x hx
 simpa using this
theorem rec_mem {L : List (Nat × MsgS)} (hr : Rises L) {x : Nat × MsgS} (hx : x ∈ L) : recOf L (x.1 : Int) = some x := by
 cases h : recOf L (x.1 : Int) with
 | none => exact absurd rfl (rec_none h x hx)
 | some y =>
  obtain ⟨h1, h2⟩ := rec_some h
  congr 1
  have h3 : (L.map (·.1)).Nodup := by
   rw [List.Nodup, List.pairwise_map]
   exact hr.imp (fun h e => by omega)
  exact nodup_inj h3 h1 hx (by omega)
section
variable {W w w' : World} {t p n r sb mb : Nat} {D D' : DiskS} {R R' : RowS} {L : List (Nat × MsgS)} {last : Int} {F F' G G' : Nat → Prop} {v v' iv : Value} {S S' : TS} {b : List UInt8}
theorem TpIn.look (h : TpIn W w t p n r sb mb D R L last F v iv) (k : Int) : ∀ w', Calm w w' → (Instr.lookup 134 (.map (some mb)) (.int .i64 k) false).run Tryz.prog w' = .ok (.int .i64 (sizeOf' L k : Int)) w' := fun w' hc => by
 have hm := h.sizes.calm hc
 unfold sizeOf'
 cases hx : recOf L k with
 | some x =>
  obtain ⟨h1, h2⟩ := rec_some hx
  exact hm.hit (P := Tryz.prog) Tryz.underlying134 Tryz.underlying3 (key := .int .i64 k) (v := .int .i64 ((recB x.2).size : Int)) rfl (List.mem_map.2 ⟨x, h1, by unfold encZ; rw [h2]⟩) false
 | none =>
  have h1 := rec_none hx
  exact hm.miss (P := Tryz.prog) (z := .int .i64 0) Tryz.underlying134 Tryz.underlying3 (key := .int .i64 k) rfl (by kernel_rfl) (fun y hy => by
   obtain ⟨x, hx, rfl⟩ := List.mem_map.1 hy
   intro e
   simp only [encZ, Value.int.injEq, true_and] at e
   exact h1 x hx e) false
theorem Size_any (k : Int) (w : World) (h : Tp W t p n S G w) : Calls Tryz.prog 30 #[ptrTo t, .int .i64 k] w fun e w' => e = .returned (.int .i64 (sizeOf' S.recs k : Int)) ∧ w = w' := by
 obtain ⟨r, sb, mb, F, v, iv, hT, hG⟩ := h.at_
 have hl := hT.look k w (Calm.refl _)
 obtain ⟨z, hz⟩ : ∃ z, sizeOf' S.recs k = z := ⟨_, rfl⟩
 rw [hz] at hl ⊢
 obtain ⟨c0, c1, c2, c3, c4, clt⟩ := hT.cells
 clear hT hG h hz
 go_enter Tryz.func30, Tryz.ntmps30
 go_wp2_with fail
 go_ret
 exact ⟨rfl, rfl⟩
theorem Begin_any (w : World) (h : Tp W t p n S G w) : Calls Tryz.prog 31 #[ptrTo t] w fun e w' => e = .returned (.int .i64 (S.R.start : Int)) ∧ w = w' := by
 obtain ⟨r, sb, mb, F, v, iv, hT, hG⟩ := h.at_
 have hb := box (sg.Begin_any w hT.seg.row)
 obtain ⟨c0, c1, c2, c3, c4, clt⟩ := hT.cells
 clear hT hG h
 go_enter Tryz.func31, Tryz.ntmps31
 go_wp2_with fail
 refine hb.out.mono ?_
 rintro e w1 ⟨rfl, rfl⟩
 go_wp2_with fail
 go_ret
 exact ⟨rfl, rfl⟩
theorem End_any (w : World) (h : Tp W t p n S G w) : Calls Tryz.prog 27 #[ptrTo t] w fun e w' => e = .returned (.int .i64 (S.R.fin : Int)) ∧ w = w' := by
 obtain ⟨r, sb, mb, F, v, iv, hT, hG⟩ := h.at_
 have hb := box (sg.End_any w hT.seg.row)
 obtain ⟨c0, c1, c2, c3, c4, clt⟩ := hT.cells
 clear hT hG h
 go_enter Tryz.func27, Tryz.ntmps27
 go_wp2_with fail
 refine hb.out.mono ?_
 rintro e w1 ⟨rfl, rfl⟩
 go_wp2_with fail
 go_ret
 exact ⟨rfl, rfl⟩
theorem Synced_any (w : World) (h : Tp W t p n S G w) : Calls Tryz.prog 46 #[ptrTo t] w fun e w' => e = .returned (.int .i64 (S.R.synced : Int)) ∧ w = w' := by
 obtain ⟨r, sb, mb, F, v, iv, hT, hG⟩ := h.at_
 have hb := box (sg.Synced_any w hT.seg.row)
 obtain ⟨c0, c1, c2, c3, c4, clt⟩ := hT.cells
 clear hT hG h
 go_enter Tryz.func46, Tryz.ntmps46
 go_wp2_with fail
 refine hb.out.mono ?_
 rintro e w1 ⟨rfl, rfl⟩
 go_wp2_with fail
 go_ret
 exact ⟨rfl, rfl⟩
theorem Last_any (w : World) (h : Tp W t p n S G w) : Calls Tryz.prog 53 #[ptrTo t] w fun e w' => e = .returned (.int .i64 (match S.recs.getLast? with | some x => x.2.born | none => 0)) ∧ w = w' := by
 obtain ⟨r, sb, mb, F, v, iv, hT, hG⟩ := h.at_
 obtain ⟨c0, c1, c2, c3, c4, clt⟩ := hT.cells
 have hb := h.born
 have hlen := hT.ids
 obtain ⟨iva, ivc, rfl, _⟩ := row_cap hT.ids
 cases hx : S.recs.getLast? with
 | none =>
  have h0 : S.recs.length = 0 := by rw [List.getLast?_eq_none_iff] at hx; rw [hx]; rfl
  rw [h0] at c2
  clear hT hG h hlen hb hx h0
  go_enter Tryz.func53, Tryz.ntmps53
  go_wp2_with fail
  go_ret
  exact ⟨rfl, rfl⟩
 | some x =>
  have h0 : ((S.recs.length : Int) == 0) = false := beq_eq_false_iff_ne.2 (fun e => by
   have : S.recs = [] := List.eq_nil_of_length_eq_zero (by omega)
   rw [this] at hx; cases hx)
  have h1 : (S.recs.length == 0) = false := beq_eq_false_iff_ne.2 (fun e => by
   have : S.recs = [] := List.eq_nil_of_length_eq_zero (by omega)
   rw [this] at hx; cases hx)
  have hl := hb x hx
  rw [hl] at c4
  clear hT hG h hlen hb hx hl
  go_enter Tryz.func53, Tryz.ntmps53
  go_wp2_with fail
  go_ret
  exact ⟨rfl, rfl⟩
set_option maxHeartbeats 4000000 in
theorem Cost_any (m : MsgS) (kv : Value) (w : World) (h : Tp W t p n S G w) (hm : Fair w m kv) : Calls Tryz.prog 28 #[ptrTo t, .agg (msgA m kv)] w fun e w' => e = .returned (.int .i64 (costP S.R.fin m : Int)) ∧ Calm w w' := by
 obtain ⟨r, sb, mb, F, v, iv, hT, hG⟩ := h.at_
 have he := h.end_ok
 have hcost := cost_of m he
 obtain ⟨ka, kcap, hkv, _⟩ := hm.keys.uni
 subst hkv
 obtain ⟨W1, hW1⟩ : ∃ W1, w.alloc (.cells (msgA m (.slice ka m.keys.length kcap)) 62) = W1 := ⟨_, rfl⟩
 have J0 := box (show W1.heap[w.heap.size]? = some (.cells (msgA m (.slice ka m.keys.length kcap)) 62 (0, 0)) by rw [← hW1]; exact heap_new w _)
 have C0 := box (show Calm w W1 by rw [← hW1]; exact (Calm.refl w).alloc _)
 have hlaid := box (laid_any m _ W1 (hT.calm C0.out) h.size he (hm.calm C0.out))
 have hz : (fillOf S.R.fin m).size ≤ 1024 ∧ (bytesOf m).size ≤ 321 := by
  unfold fillOf bytesOf
  by_cases hok : okM m
  ·rw [if_pos hok, if_pos hok]
   have := recB_bounds hok.1 hok.2
   refine ⟨?_, this.2⟩
   split
   ·exact Nat.zero_le _
   ·rw [fillB_size (by unfold roomAt; omega)]; unfold roomAt; omega
  ·rw [if_neg hok, if_neg hok]; exact ⟨Nat.zero_le _, Nat.zero_le _⟩
 obtain ⟨f, hfE⟩ : ∃ f, fillOf S.R.fin m = f := ⟨_, rfl⟩
 obtain ⟨sB, hsE⟩ : ∃ x, bytesOf m = x := ⟨_, rfl⟩
 rw [hfE, hsE] at hcost hlaid hz
 have Hcost := box hcost
 have c0 := cell_of J0.out 0
 have c1 := cell_of J0.out 1
 have c2 := cell_of J0.out 2
 have c3 := cell_of J0.out 3
 have c4 := cell_of J0.out 4
 have c5 := cell_of J0.out 5
 have c6 := cell_of J0.out 6
 have c7 := cell_of J0.out 7
 have c8 := cell_of J0.out 8
 have c9 := cell_of J0.out 9
 have clt := heap_lt J0.out
 obtain ⟨hz1, hz2⟩ := hz
 clear hT hG h he hcost hm hfE hsE
 go_enter Tryz.func28, Tryz.ntmps28
 go_wp2_with fail
 (try rw [hW1])
 refine hlaid.out.mono ?_
 rintro e w2 ⟨rfl, hc2⟩
 have HC2 := box (C0.out.trans hc2)
 clear hc2 hlaid c0 c1 c2 c3 c4 c5 c6 c7 c8 c9 clt
 go_wp2_with fail
 go_ret
 exact ⟨by rw [Hcost.out]; exact ret_int (by simp), HC2.out⟩
end
section
variable {W w w' : World} {t p n r sb mb : Nat} {D D' : DiskS} {R R' : RowS} {L : List (Nat × MsgS)} {last : Int} {F F' G G' : Nat → Prop} {v v' iv : Value} {S S' : TS} {b : List UInt8}
def nextOf (L : List (Nat × MsgS)) (k : Int) : Array Value := match fromL L k with | x :: _ => #[.int .i64 (x.1 : Int), .bool true] | [] => #[.int .i64 0, .bool false]
theorem Next_any (k : Int) (w : World) (h : Tp W t p n S G w) (hfin : S.R.fin ≤ 1000000) : Calls Tryz.prog 52 #[ptrTo t, .int .i64 k] w fun e w' => e = .returned (.tuple (nextOf S.recs k)) ∧ Calm w w' := by
 obtain ⟨r, sb, mb, F, v, iv, hT, hG⟩ := h.at_
 have hfew := h.few.2
 have hpl := box (place_any k w hT h.rises (by omega))
 have hcs := box (fun q => (hT.calm ((Calm.refl w).drewN q)).cells)
 have hle := place_le S.recs k
 have hdr := drop_place h.rises k
 have hnums := fun q => (hT.calm ((Calm.refl w).drewN q)).nums
 have Hn := box hnums
 obtain ⟨pl, hplE⟩ : ∃ pl, placeN S.recs k = pl := ⟨_, rfl⟩
 rw [hplE] at hpl hle hdr
 by_cases hlt : pl < S.recs.length
 ·have hnx : nextOf S.recs k = #[.int .i64 (S.recs[pl].1 : Int), .bool true] := by
   unfold nextOf
   rw [← hdr, List.drop_eq_getElem_cons hlt]
  rw [hnx]
  obtain ⟨id, hid⟩ : ∃ id, S.recs[pl].1 = id := ⟨_, rfl⟩
  rw [hid]
  rcases hT.nums with ⟨h1, h2⟩ | ⟨bb, cap, h1, h2, h3, h4⟩
  ·rw [h1] at hlt; simp at hlt
  ·have hc := h4 pl (by rw [nums_length]; exact hlt)
   rw [List.getD_eq_getElem?_getD, List.getElem?_eq_getElem (by rw [nums_length]; exact hlt)] at hc
   simp only [numsI, List.getElem_map, Option.getD_some, hid, Nat.zero_add] at hc
   subst h1
   have Hc := box (fun q => (show (w.drewN q).cell? ⟨bb, pl, none⟩ = some (.int .i64 (id : Int)) from hc))
   obtain ⟨c0, c1, c2, c3, c4, clt⟩ := hT.cells
   have t1 : decide (pl < S.recs.length) = true := decide_eq_true hlt
   have h3q := h3
   clear hT hG h hnums hdr hnx hid h4 hplE hc Hn
   go_enter Tryz.func52, Tryz.ntmps52
   go_wp2_with fail
   refine hpl.out.mono ?_
   rintro e w1 ⟨rfl, q, rfl⟩
   clear c0 c1 c2 c3 c4 clt
   obtain ⟨c0, c1, c2, c3, c4, clt⟩ := hcs.out q
   have hc := Hc.out q
   have HC := box ((Calm.refl w).drewN q)
   have hbl : bb < (w.drewN q).heap.size := h3
   clear h3 h3q
   generalize w.drewN q = wq at c0 c1 c2 c3 c4 clt hc HC hbl ⊢
   go_wp2_with fail
   go_ret2
   exact ⟨rfl, HC.out⟩
 ·have hnx : nextOf S.recs k = #[.int .i64 0, .bool false] := by
   unfold nextOf
   rw [← hdr, List.drop_of_length_le (by omega)]
  rw [hnx]
  obtain ⟨iva, ivc, rfl, _⟩ := row_cap hT.ids
  obtain ⟨c0, c1, c2, c3, c4, clt⟩ := hT.cells
  have t1 : decide (pl < S.recs.length) = false := decide_eq_false hlt
  clear hT hG h hnums hdr hnx hplE Hn hlt
  go_enter Tryz.func52, Tryz.ntmps52
  go_wp2_with fail
  refine hpl.out.mono ?_
  rintro e w1 ⟨rfl, q, rfl⟩
  clear c0 c1 c2 c3 c4 clt
  obtain ⟨c0, c1, c2, c3, c4, clt⟩ := hcs.out q
  have HC := box ((Calm.refl w).drewN q)
  generalize w.drewN q = wq at c0 c1 c2 c3 c4 clt HC ⊢
  go_wp2_with fail
  go_ret2
  exact ⟨rfl, HC.out⟩
def NumsAt (w : World) (L : List (Nat × MsgS)) (iv : Value) : Prop := (L = [] ∧ iv = .slice none 0 0) ∨ ∃ b cap, iv = .slice (some ⟨b, 0, none⟩) L.length cap ∧ L.length ≤ cap ∧ b < w.heap.size ∧ ∀ j, j < (numsI L).length → w.cell? ⟨b, 0 + j, none⟩ = some (.int .i64 ((numsI L).getD j 0))
def NumsDone (B : Nat) (l : List (Nat × MsgS)) (w : World) (e : Ending) (w' : World) : Prop := ∃ a cap, e = .returned (.slice a l.length cap) ∧ w'.ownsRow B 3 1 (.slice a l.length cap) l.length (intN (l.map (·.1))) ∧ Calm w w'
theorem clone_nums (w : World) (hN : NumsAt w L iv) (hL : L.length ≤ 1000000) {pl : Nat} (hle : pl ≤ L.length) :
  ∃ sv, (∀ W' : World, (Instr.slice 69 iv (some (.int .i64 (pl : Int))) none none).run Tryz.prog W' = .ok sv W') ∧ (∃ a n c, sv = .slice a n c) ∧ ∀ w', Calm w w' → Calls Tryz.prog 83 #[sv] w' (NumsDone w'.heap.size (L.drop pl) w') := by
 rcases hN with ⟨h1, h2⟩ | ⟨bb, cap, h1, h2, h3, h4⟩
 ·subst h1 h2
  obtain rfl : pl = 0 := by simpa using hle
  refine ⟨.slice none 0 0, fun W' => ?_, ⟨_, _, _, rfl⟩, fun w' _ => ?_⟩
  ·have he : Tryz.prog.elem 69 = 3 := by kernel_rfl
   have hz : ∀ w : World, (Go.sizeOf 3).run Tryz.prog w = .ok 1 w := Tryz.sizeOf3
   rw [run_slice_l W' 69 _ _ _ (by rw [he]; exact Tryz.underlying69) .i64 _ (by omega) (by omega), he, hz]
   simp [Result.andThen, sliced]
  ·exact (Tryz.slices_Clone_int_nil 0 0 w').mono fun e w2 ⟨he, hw⟩ => ⟨none, 0, he, World.ownsRow_nil _ _ _ _, hw ▸ Calm.refl _⟩
 ·subst h1
  obtain ⟨a', hs, ha⟩ := slice_from w bb L.length cap pl hle h2
  refine ⟨_, hs, ⟨_, _, _, rfl⟩, fun w' hc => ?_⟩
  by_cases hlt : pl < L.length
  ·rw [ha (by omega)]
   have hd : (numsI L).drop pl = numsI (L.drop pl) := by unfold numsI; rw [List.map_drop]
   refine (Tryz.slices_Clone_int bb pl (L.length - pl) (cap - pl) ((numsI L).drop pl) w' (by rw [List.length_drop, nums_length]; exact Nat.le_refl _) (by omega) (fun j hj => ?_)).mono ?_
   ·rw [List.length_drop, nums_length] at hj
    have := h4 (pl + j) (by rw [nums_length]; omega)
    rw [Nat.zero_add] at this
    rw [hc.cell (p := ⟨bb, pl + j, none⟩) h3, this]
    simp [List.getD_eq_getElem?_getD, List.getElem?_drop]
   ·rintro e w2 ⟨v2, rfl, h5, _, h6⟩
    have h7 : w2.ownsRow w'.heap.size 3 1 v2 (L.drop pl).length (intN ((L.drop pl).map (·.1))) := by
     rw [List.take_of_length_le (by rw [List.length_drop, nums_length]; exact Nat.le_refl _), hd] at h5
     rw [nums_row, List.length_drop]
     exact h5
    obtain ⟨a2, c2, rfl, _⟩ := row_cap h7
    exact ⟨a2, c2, rfl, h7, h6⟩
  ·have h0 : L.length - pl = 0 := by omega
   rw [h0]
   refine (Tryz.slices_Clone_int_zero a' (cap - pl) w').mono ?_
   rintro e w2 ⟨v2, rfl, h5, _, h6⟩
   have hnil : L.drop pl = [] := List.drop_of_length_le (by omega)
   rw [hnil]
   obtain ⟨a2, c2, rfl, _⟩ := row_cap h5
   exact ⟨a2, c2, rfl, h5, h6⟩
theorem clone_from (w : World) (hT : TpIn W w t p n r sb mb D R L last F v iv) (hL : L.length ≤ 1000000) {pl : Nat} (hle : pl ≤ L.length) :
  ∃ sv, (∀ W' : World, (Instr.slice 69 iv (some (.int .i64 (pl : Int))) none none).run Tryz.prog W' = .ok sv W') ∧ (∃ a n c, sv = .slice a n c) ∧ ∀ w', Calm w w' → Calls Tryz.prog 83 #[sv] w' (NumsDone w'.heap.size (L.drop pl) w') := clone_nums w hT.nums hL hle
theorem slice_to (hN : NumsAt w L iv) {pl : Nat} (hle : pl ≤ L.length) : ∃ a c, iv = .slice a L.length c ∧ ∀ W' : World, (Instr.slice 69 iv none (some (.int .i64 (pl : Int))) none).run Tryz.prog W' = .ok (.slice a pl c) W' := by
 have he : Tryz.prog.elem 69 = 3 := by kernel_rfl
 have hz : ∀ w : World, (Go.sizeOf 3).run Tryz.prog w = .ok 1 w := Tryz.sizeOf3
 rcases hN with ⟨h1, h2⟩ | ⟨bb, cap, h1, h2, h3, h4⟩
 ·subst h1 h2
  obtain rfl : pl = 0 := by simpa using hle
  refine ⟨none, 0, rfl, fun W' => ?_⟩
  rw [run_slice_h W' 69 _ _ _ (by rw [he]; exact Tryz.underlying69) .i64 _ (by omega) (by omega), he, hz]
  simp [Result.andThen, sliced]
 ·subst h1
  refine ⟨_, cap, rfl, fun W' => ?_⟩
  rw [run_slice_h W' 69 _ _ _ (by rw [he]; exact Tryz.underlying69) .i64 _ (by omega) (by omega), he, hz]
  by_cases h0 : cap = 0
  ·simp [Result.andThen, sliced, Addr.add, h0]
  ·simp [Result.andThen, sliced, Addr.add, h0]
end
section
variable {W w w' : World} {t p n r sb mb : Nat} {D D' : DiskS} {R R' : RowS} {L : List (Nat × MsgS)} {last : Int} {F F' G G' : Nat → Prop} {v v' iv : Value} {S S' : TS} {b : List UInt8}
set_option maxHeartbeats 4000000 in
theorem Ids_any (k : Int) (w : World) (h : Tp W t p n S G w) (hfin : S.R.fin ≤ 1000000) : Calls Tryz.prog 36 #[ptrTo t, .int .i64 k] w (NumsDone w.heap.size (fromL S.recs k) w) := by
 obtain ⟨r, sb, mb, F, v, iv, hT, hG⟩ := h.at_
 have hfew := h.few.2
 have hpl := box (fun W' (hc : Calm w W') => left_calm (place_any k W' (hT.calm hc) h.rises (by omega)))
 have hle := place_le S.recs k
 have hdr := drop_place h.rises k
 rw [← hdr]
 obtain ⟨sv, hs, hsh, hcl⟩ := clone_from w hT (by omega) hle
 obtain ⟨sa, sn, sc, rfl⟩ := hsh
 have Hcl := box (fun W' (hc : Calm w W') => (hcl W' hc).mono (fun e w2 ⟨a, c, he, hr, hc2⟩ => (⟨a, c, he, row_base (row_zero hr) (fun g hg => Nat.le_trans hc.size (hr.lt g hg).1), hc2⟩ : NumsDone w.heap.size (S.recs.drop (placeN S.recs k)) W' e w2)))
 have hcs := box (fun W' (hc : Calm w W') => (hT.calm hc).cells.2.2.1)
 obtain ⟨iva, ivc, rfl, _⟩ := row_cap hT.ids
 obtain ⟨c0, c1, c2, c3, c4, clt⟩ := hT.cells
 obtain ⟨pl, hplE⟩ : ∃ pl, placeN S.recs k = pl := ⟨_, rfl⟩
 rw [hplE] at hpl hle hs Hcl ⊢
 obtain ⟨out, hout⟩ : ∃ out, S.recs.drop pl = out := ⟨_, rfl⟩
 rw [hout] at Hcl ⊢
 clear hT hG h hdr hplE hcl hout
 go_enter Tryz.func36, Tryz.ntmps36
 go_upto_region 3 with fail
 go_region_held3 (fun w' => w'.cell? ⟨t, 2, none⟩ = some (.slice iva S.recs.length ivc)) (first | go_keep | exact hcs.out _ (by (repeat' (first | (with_reducible exact Calm.refl _) | (with_reducible assumption) | (with_reducible refine Calm.drew ?_) | (with_reducible refine Calm.alloc ?_ _) | (with_reducible refine Calm.trans ?_ (by assumption)))))) (first
  | (go_at_call 82; refine (hpl.out _ (by (repeat' (first | (with_reducible exact Calm.refl _) | (with_reducible assumption) | (with_reducible refine Calm.drew ?_) | (with_reducible refine Calm.alloc ?_ _) | (with_reducible refine Calm.trans ?_ (by assumption)))))).mono ?_; rintro e w5 ⟨rfl, hc5⟩)
  | (go_at_call 83; refine (Hcl.out _ (by (repeat' (first | (with_reducible exact Calm.refl _) | (with_reducible assumption) | (with_reducible refine Calm.drew ?_) | (with_reducible refine Calm.alloc ?_ _) | (with_reducible refine Calm.trans ?_ (by assumption)))))).mono ?_; rintro e w6 ⟨a6, c6, rfl, hr6, hc6⟩))
 have HC6 := box (show Calm w w6 by (repeat' (first | (with_reducible exact Calm.refl _) | (with_reducible assumption) | (with_reducible refine Calm.drew ?_) | (with_reducible refine Calm.alloc ?_ _) | (with_reducible refine Calm.trans ?_ (by assumption)))))
 have HR6 := box hr6
 clear hr6 hc6 hpl Hcl hs hcs c0 c1 c2 c3 c4 clt
 go_wp2_with fail
 go_ret
 exact ⟨a6, c6, rfl, HR6.out, HC6.out⟩
def ReadT (S : TS) (k : Int) (w : World) (e : Ending) (w' : World) : Prop := Calm w w' ∧
 ((0 ≤ k ∧ k < S.R.start ∧ e = .returned (.tuple #[.agg zeroA, .int .i64 14])) ∨ (¬ (0 ≤ k ∧ k < S.R.start) ∧ (∀ x ∈ S.recs, (x.1 : Int) ≠ k) ∧ e = .returned (.tuple #[.agg zeroA, .int .i64 9])) ∨
  ∃ x ∈ S.recs, (x.1 : Int) = k ∧ ∃ kv, e = .returned (.tuple #[.agg (msgA x.2 kv), .int .i64 0]) ∧ StrsAt w' kv x.2.keys)
set_option maxHeartbeats 8000000 in
theorem Read_any (k : Int) (w : World) (h : Tp W t p n S G w) (ha : Alive S.D) : Calls Tryz.prog 34 #[ptrTo t, .int .i64 k] w (ReadT S k w) := by
 obtain ⟨r, sb, mb, F, v, iv, hT, hG⟩ := h.at_
 have hbeg := box (fun W' (hc : Calm w W') => sg.Begin_any W' (hT.seg.row.calm hc))
 have hlk := hT.look k
 have hcs := box (fun W' (hc : Calm w W') => (hT.calm hc).cells)
 obtain ⟨W1, hW1⟩ : ∃ W1, w.alloc (.cells zeroA 62) = W1 := ⟨_, rfl⟩
 have Z1 := box (show W1.heap[w.heap.size]? = some (.cells zeroA 62 (0, 0)) by rw [← hW1]; exact heap_new w _)
 have C1 := box (show Calm w W1 by rw [← hW1]; exact (Calm.refl w).alloc _)
 have Hfin0 := box (put_msg Z1.out rfl (.int .i64 0) (.int .i64 0) (.int .i64 0) (.int .i64 0) (.int .i64 0) (.int .i64 0) (.string ⟨#[]⟩) (.string ⟨#[]⟩) (.string ⟨#[]⟩) (.slice none 0 0))
 have Cfin0 := box (calm_put_msg (a := w) C1.out (b := w.heap.size) (Nat.le_refl _) (.int .i64 0) (.int .i64 0) (.int .i64 0) (.int .i64 0) (.int .i64 0) (.int .i64 0) (.string ⟨#[]⟩) (.string ⟨#[]⟩) (.string ⟨#[]⟩) (.slice none 0 0))
 have z0 := cell_of Z1.out 0
 have z1 := cell_of Z1.out 1
 have z2 := cell_of Z1.out 2
 have z3 := cell_of Z1.out 3
 have z4 := cell_of Z1.out 4
 have z5 := cell_of Z1.out 5
 have z6 := cell_of Z1.out 6
 have z7 := cell_of Z1.out 7
 have z8 := cell_of Z1.out 8
 have z9 := cell_of Z1.out 9
 have f0 := free_of Z1.out 0
 have f1 := free_of Z1.out 1
 have f2 := free_of Z1.out 2
 have f3 := free_of Z1.out 3
 have f4 := free_of Z1.out 4
 have f5 := free_of Z1.out 5
 have f6 := free_of Z1.out 6
 have f7 := free_of Z1.out 7
 have f8 := free_of Z1.out 8
 have f9 := free_of Z1.out 9
 have hlz := heap_lt Z1.out
 obtain ⟨c0, c1, c2, c3, c4, clt⟩ := hcs.out _ C1.out
 by_cases hA : 0 ≤ k ∧ k < S.R.start
 ·obtain ⟨hk0, hk1⟩ := hA
  have t1 : decide (0 ≤ k) = true := decide_eq_true hk0
  have t2 : decide (k < (S.R.start : Int)) = true := decide_eq_true hk1
  have Hk := box (show 0 ≤ k ∧ k < (S.R.start : Int) from ⟨hk0, hk1⟩)
  clear hk0 hk1 hT hG h hlk
  go_enter Tryz.func34, Tryz.ntmps34
  go_wp2_with fail
  (try rw [hW1])
  refine (hbeg.out _ C1.out).mono ?_
  rintro e w2 ⟨rfl, rfl⟩
  go_wp2_with fail
  (try simp only [Exit.inBlock, Exit.then])
  refine bodyPost_ret (ret_msg2 rfl _ _ w.heap.size _ rfl Hfin0.out rfl) rfl ?_
  exact ⟨Cfin0.out, .inl ⟨Hk.out.1, Hk.out.2, rfl⟩⟩
 have HA := box hA
 clear hA
 cases hx : recOf S.recs k with
 | none =>
  have Hno := box (rec_none hx)
  have hz : sizeOf' S.recs k = 0 := by unfold sizeOf'; rw [hx]
  rw [hz] at hlk
  have hl := hlk W1 C1.out
  clear hx hlk hz hT hG h
  by_cases hneg : k < 0
  ·have t1 : decide (0 ≤ k) = false := decide_eq_false (by omega)
   go_enter Tryz.func34, Tryz.ntmps34
   go_wp2_with fail
   (try rw [hW1])
   go_wp2_with fail
   (try simp only [Exit.inBlock, Exit.then])
   refine bodyPost_ret (ret_msg2 rfl _ _ w.heap.size _ rfl Hfin0.out rfl) rfl ?_
   exact ⟨Cfin0.out, .inr (.inl ⟨HA.out, Hno.out, rfl⟩)⟩
  ·have t1 : decide (0 ≤ k) = true := decide_eq_true (by omega)
   have t2 : decide (k < (S.R.start : Int)) = false := decide_eq_false (by have := HA.out; omega)
   go_enter Tryz.func34, Tryz.ntmps34
   go_wp2_with fail
   (try rw [hW1])
   refine (hbeg.out _ C1.out).mono ?_
   rintro e w2 ⟨rfl, rfl⟩
   go_wp2_with fail
   (try simp only [Exit.inBlock, Exit.then])
   refine bodyPost_ret (ret_msg2 rfl _ _ w.heap.size _ rfl Hfin0.out rfl) rfl ?_
   exact ⟨Cfin0.out, .inr (.inl ⟨HA.out, Hno.out, rfl⟩)⟩
 | some x =>
  obtain ⟨hx1, hx2⟩ := rec_some hx
  have hz : sizeOf' S.recs k = (recB x.2).size := by unfold sizeOf'; rw [hx]
  have hrg := recs_range S.ps _ h.fit x hx1
  have hbd := recB_bounds hrg.2.2.1 hrg.2.2.2.1
  have hrd0 := read_rec h.holds ha h.fit h.size hx1
  have hgt := rec_get (m := x.2) ⟨hrg.2.2.1, hrg.2.2.2.1⟩
  rw [hz] at hlk
  rw [hx2] at hrd0
  have hrd := box (fun W' (hc : Calm w W') => sg.Read_any k ((recB x.2).size : Int) W' (hT.seg.drew hc))
  rw [hrd0] at hrd
  have hget := box (fun W' (hc : Calm w W') => Get_fresh sb (recB x.2) W' (heap_calm hc hT.sums) (by omega))
  rw [hgt] at hget
  have t1 : decide (0 ≤ k) = true := decide_eq_true (by omega)
  have t2 : decide (k < (S.R.start : Int)) = false := decide_eq_false (by have := HA.out; omega)
  have Hres := box (show ∀ kv w', Calm w w' → StrsAt w' kv x.2.keys → ReadT S k w (.returned (.tuple #[.agg (msgA x.2 kv), .int .i64 0])) w' from fun kv w' hc hk => ⟨hc, .inr (.inr ⟨x, hx1, hx2, kv, rfl, hk⟩)⟩)
  obtain ⟨z, hzE⟩ : ∃ z, (recB x.2).size = z := ⟨_, rfl⟩
  rw [hzE] at hlk hrd hget hbd
  obtain ⟨B, hB⟩ : ∃ B, recB x.2 = B := ⟨_, rfl⟩
  rw [hB] at hrd hget
  obtain ⟨id, m⟩ := x
  have t3 : ((z : Int) == 0) = false := beq_eq_false_iff_ne.2 (by omega)
  have hl := hlk W1 C1.out
  have hlA := hlk
  obtain ⟨kd, q, du, rt, rf, bn, tp, tg, bd, ks⟩ := m
  simp only at hget Hres
  clear hx hx1 hx2 hz hrg hrd0 hgt hzE hB hT hG h ha
  have HL := box hlA
  clear hlA hlk
  go_enter Tryz.func34, Tryz.ntmps34
  go_wp2_with fail
  (try rw [hW1])
  refine (hbeg.out _ C1.out).mono ?_
  rintro e w2 ⟨rfl, rfl⟩
  clear hbeg
  go_upto_region 7 with fail
  have hl2 := HL.out W1.drew C1.out.drew
  go_region_with ((go_at_call 84; refine (hrd.out _ (C1.out.trans (by (repeat' (first | (with_reducible exact Calm.refl _) | (with_reducible assumption) | (with_reducible refine Calm.drew ?_) | (with_reducible refine Calm.alloc ?_ _) | (with_reducible refine Calm.trans ?_ (by assumption))))))).mono ?_; rintro e w6 ⟨rfl, hc6⟩))
  all_goals
   have HW6 := box (show Calm W1 w6 by (repeat' (first | (with_reducible exact Calm.refl _) | (with_reducible assumption) | (with_reducible refine Calm.drew ?_) | (with_reducible refine Calm.alloc ?_ _) | (with_reducible refine Calm.trans ?_ (by assumption)))))
   have HC6 := box (C1.out.trans HW6.out)
   have Z6 := box (heap_calm HW6.out Z1.out)
   clear hc6 hrd c0 c1 c2 c3 c4 clt hl hl2 z0 z1 z2 z3 z4 z5 z6 z7 z8 z9 f0 f1 f2 f3 f4 f5 f6 f7 f8 f9 hlz
   obtain ⟨c0, c1, c2, c3, c4, clt⟩ := hcs.out _ HC6.out
   go_wp2_with fail
   refine (hget.out _ HC6.out).mono ?_
   rintro e w7 ⟨kv, rfl, hk7, hc7, hfr⟩
   obtain ⟨ka, kcap, rfl, _⟩ := hk7.uni
   simp only at hk7
   have J8 := box (heap_new w7 (.cells (msgA ⟨kd, q, du, rt, rf, bn, tp, tg, bd, ks⟩ (.slice ka ks.length kcap)) 62))
   have C8 := box ((Calm.refl w7).alloc (.cells (msgA ⟨kd, q, du, rt, rf, bn, tp, tg, bd, ks⟩ (.slice ka ks.length kcap)) 62))
   have Z8 := box (heap_calm (hc7.trans C8.out) Z6.out)
   have HC8 := box (HC6.out.trans (hc7.trans C8.out))
   have hks := box (hk7.calm C8.out)
   have hzl := heap_lt (heap_calm hc7 Z6.out)
   have hxk := hzl
   have Hfin := box (put_msg Z8.out rfl (.int .i64 kd) (.int .i64 q) (.int .i64 du) (.int .i64 rt) (.int .i64 rf) (.int .i64 bn) (.string tp) (.string tg) (.string bd) (.slice ka ks.length kcap))
   have FR := box (show ∀ a n c, Value.slice ka ks.length kcap = .slice (some a) n c → 0 < n → a.block ≠ w.heap.size from fun a n c e hn => by
    have := hfr a n c e hn
    have := heap_lt Z6.out
    omega)
   have Hk := box (strs_keep hks.out (keeps_put_msg (Keeps.refl (fun b => b = w.heap.size) _) (b := w.heap.size) rfl (.int .i64 kd) (.int .i64 q) (.int .i64 du) (.int .i64 rt) (.int .i64 rf) (.int .i64 bn) (.string tp) (.string tg) (.string bd) (.slice ka ks.length kcap)) FR.out)
   have Cfin := box (calm_put_msg (a := w) HC8.out (b := w.heap.size) (Nat.le_refl _) (.int .i64 kd) (.int .i64 q) (.int .i64 du) (.int .i64 rt) (.int .i64 rf) (.int .i64 bn) (.string tp) (.string tg) (.string bd) (.slice ka ks.length kcap))
   clear hk7 hc7 hfr hget c0 c1 c2 c3 c4 clt hzl hxk
   have c0 := cell_of J8.out 0
   have c1 := cell_of J8.out 1
   have c2 := cell_of J8.out 2
   have c3 := cell_of J8.out 3
   have c4 := cell_of J8.out 4
   have c5 := cell_of J8.out 5
   have c6 := cell_of J8.out 6
   have c7 := cell_of J8.out 7
   have c8 := cell_of J8.out 8
   have c9 := cell_of J8.out 9
   have clt := heap_lt J8.out
   have z0 := cell_of Z8.out 0
   have z1 := cell_of Z8.out 1
   have z2 := cell_of Z8.out 2
   have z3 := cell_of Z8.out 3
   have z4 := cell_of Z8.out 4
   have z5 := cell_of Z8.out 5
   have z6 := cell_of Z8.out 6
   have z7 := cell_of Z8.out 7
   have z8 := cell_of Z8.out 8
   have z9 := cell_of Z8.out 9
   have f0 := free_of Z8.out 0
   have f1 := free_of Z8.out 1
   have f2 := free_of Z8.out 2
   have f3 := free_of Z8.out 3
   have f4 := free_of Z8.out 4
   have f5 := free_of Z8.out 5
   have f6 := free_of Z8.out 6
   have f7 := free_of Z8.out 7
   have f8 := free_of Z8.out 8
   have f9 := free_of Z8.out 9
   have hlz := heap_lt Z8.out
   go_wp2_with fail
   (try simp only [Exit.inBlock, Exit.then])
   refine bodyPost_ret (ret_msg2 rfl _ _ w.heap.size _ rfl Hfin.out rfl) rfl ?_
   exact Hres.out _ _ Cfin.out Hk.out
end
section
variable {W w w' : World} {t p n r sb mb c m : Nat} {D D' : DiskS} {R R' : RowS} {L : List (Nat × MsgS)} {last : Int} {F F' G G' : Nat → Prop} {v v' iv : Value} {S S' : TS} {b : List UInt8}
def SyncDone (W : World) (t p n c m : Nat) (S : TS) (G : Nat → Prop) (w : World) (e : Ending) (w' : World) : Prop :=
 e = .returned (.int .i64 0) ∧ ∃ E G', Tp W t p n ⟨E, S.R.clean, S.ps, S.last⟩ G' w' ∧ Step G w G' w' ∧ Able E c m ∧ (∀ s, E.bytes s = S.D.bytes s) ∧ (syncD S.D S.R).2.1 = E
theorem Sync_any (w : World) (h : Tp W t p n S G w) (ha : Able S.D c m) (hn : n ≤ 1000000) (hsy : S.R.synced ≤ S.R.fin) :
  Calls Tryz.prog 33 #[ptrTo t] w (SyncDone W t p n c m S G w) := by
 obtain ⟨r, sb, mb, F, v, iv, hT, hG⟩ := h.at_
 obtain ⟨E, e1, e2, e3, e4⟩ := h.holds.sync ha hsy
 have H := box h
 have hs : Box (Calls Tryz.prog 76 #[ptrTo r] w (SyncDone W t p n c m S G w)) := by
  refine box ((Sync_row w hT.seg hn).mono ?_)
  rintro e w' ⟨F', rfl, hS, hT2⟩
  rw [e1] at hS ⊢
  refine ⟨rfl, E, tfoot t r sb mb F' v iv, ⟨⟨r, sb, mb, F', v, iv, hT.step hS hT2, fun _ => Iff.rfl⟩, e2, H.out.fit, H.out.size, H.out.head, H.out.born⟩, Step.iff (hT.foot_step hT2) hG (fun _ => Iff.rfl), e3, e4, by rw [e1]⟩
 obtain ⟨c0, c1, c2, c3, c4, clt⟩ := hT.cells
 clear hT hG h e1 e2 e3 e4 H
 go_enter Tryz.func33, Tryz.ntmps33
 go_wp2_with fail
 refine hs.out.mono ?_
 rintro e w1 ⟨rfl, E, G', h1⟩
 have H1 := box h1
 clear h1 hs
 go_wp2_with fail
 go_ret
 exact ⟨rfl, E, G', H1.out⟩
theorem TpIn.dropped {i : Nat} {w1 w2 : World} {a : Option Addr} {cap : Nat} (h : TpIn W w t p n r sb mb D R L last F v iv) (hk : Keeps (fun b => b = mb) w w1) (hm : MapIs w1 mb (.int .i64) ((L.drop i).map encZ)) (hc : Calm w1 w2)
  (hr : w2.ownsRow w1.heap.size 3 1 (.slice a (L.drop i).length cap) (L.drop i).length (intN ((L.drop i).map (·.1)))) :
  TpIn W (w2.setCell ⟨t, 2, none⟩ (.slice a (L.drop i).length cap)) t p n r sb mb D R (L.drop i) last F v (.slice a (L.drop i).length cap) ∧ Step (tfoot t r sb mb F v iv) w (tfoot t r sb mb F v (.slice a (L.drop i).length cap)) (w2.setCell ⟨t, 2, none⟩ (.slice a (L.drop i).length cap)) := by
 have htf : ¬ (F t ∨ rfoot r v t) := seg_oth oth_tape h.seg h.obj
 have hmf : ¬ (F mb ∨ rfoot r v mb) := seg_map h.seg h.sizes h.mF
 have htm : t ≠ mb := fun e => by obtain ⟨es, c, hm, _⟩ := h.sizes; rw [← e, h.obj] at hm; cases hm
 have hsm : sb ≠ mb := fun e => by obtain ⟨es, c, hm, _⟩ := h.sizes; have := h.sums; unfold TabAt at this; rw [← e, this] at hm; cases hm
 have hst : sb ≠ t := fun e => by have := h.sums; unfold TabAt at this; rw [e, h.obj] at this; simp at this
 have hK : Keeps (fun b => b = t ∨ b = mb) w (w2.setCell ⟨t, 2, none⟩ (.slice a (L.drop i).length cap)) := ((hk.mono (fun b _ hb => .inr hb)).calm hc).setCell (p := ⟨t, 2, none⟩) (.inl (.inl rfl)) _
 have hnew : ∀ g, (Value.slice a (L.drop i).length cap).ownBlock = some g → w.heap.size ≤ g := fun g hg => Nat.le_trans hk.size (hr.lt g hg).1
 have hsegK : ∀ b, (F b ∨ rfoot r v b) → ¬ (b = t ∨ b = mb) := fun b hb e => by
  rcases e with rfl | rfl
  ·exact htf hb
  ·exact hmf hb
 have hcW : Calm W (w2.setCell ⟨t, 2, none⟩ (.slice a (L.drop i).length cap)) := Below.trans h.seg.calm (hK.below h.seg.calm.size (fun b hb => by
  rcases hb with rfl | rfl
  ·exact h.tW
  ·exact h.mW))
 have ht2 : w2.heap[t]? = _ := heap_calm hc ((hk.block t (heap_lt h.obj) htm).trans h.obj)
 refine ⟨⟨⟨h.seg.disk.keep hK (fun b hb e => hsegK b (.inl hb) e), ⟨(hK.block r (heap_lt h.seg.row.at_) (fun e => hsegK r (.inr (.inl rfl)) e)).trans h.seg.row.at_, row_same h.seg.row.row (fun g hg' => hK.block g (h.seg.row.row.lt g hg').2 (fun e => hsegK g (.inr (.inr hg')) e)), h.seg.row.ok⟩, h.seg.tab, hcW, h.seg.fW, h.seg.rW, h.seg.vW⟩,
  heap_set ht2 2 _, ?_, ?_, ?_, ?_, h.mF, h.tW, h.sW, h.mW⟩, hK.mono (fun b _ hb => ?_), fun b hb => ?_⟩
 ·exact (hK.block sb (heap_lt h.sums) (fun e => by rcases e with e | e; exact hst e; exact hsm e)).trans h.sums
 ·refine row_base (row_same (row_zero hr) (fun g hg => heap_set_other (fun e => ?_) _ _)) (fun g hg => Nat.le_trans h.seg.calm.size (hnew g hg))
  have := hnew g hg
  have := heap_lt h.obj
  omega
 ·exact (hm.calm hc).same (heap_set_other (fun e => htm e.symm) _ _)
 ·intro g hg e
  have := hnew g hg
  have := (h.seg.row.row.lt g e).2
  omega
 ·rcases hb with rfl | rfl
  ·exact .inr (.inr (.inl rfl))
  ·exact .inr (.inr (.inr (.inr (.inl rfl))))
 ·rcases hb with hb | hb | hb | hb | hb | hb
  ·exact .inl (.inl hb)
  ·exact .inl (.inr (.inl hb))
  ·exact .inl (.inr (.inr (.inl hb)))
  ·exact .inl (.inr (.inr (.inr (.inl hb))))
  ·exact .inl (.inr (.inr (.inr (.inr (.inl hb)))))
  ·exact .inr (hnew b hb)
def DropDone (W : World) (t p n c m : Nat) (S : TS) (G : Nat → Prop) (w : World) (e : Ending) (w' : World) : Prop :=
 (S.R.cnt < 2 ∧ e = .returned (.tuple #[.int .i64 0, .int .i64 9]) ∧ ∃ G', Tp W t p n S G' w' ∧ Step G w G' w') ∨
 (2 ≤ S.R.cnt ∧ e = .returned (.tuple #[.int .i64 ((S.R.start + 1024 : Nat) : Int), .int .i64 0]) ∧ ∃ E G' ps1 ps2, S.ps = ps1 ++ ps2 ∧ (flat ps1).length = 1024 ∧ Tp W t p n ⟨E, S.R.rest, ps2, S.last⟩ G' w' ∧ Step G w G' w' ∧ Able E c m ∧ Only S.D E tapeN ∧ (dropD S.D S.R).2.1 = E)
theorem recs_split (h : Tp W t p n S G w) (h2 : 2 ≤ S.R.cnt) : ∃ ps1 ps2, S.ps = ps1 ++ ps2 ∧ (flat ps1).length = 1024 ∧ S.recs = recs S.R.start ps1 ++ recs (S.R.start + 1024) ps2 ∧ FitL (S.R.start + 1024) ps2 ∧ (recs S.R.start ps1).length = placeN S.recs ((S.R.start + 1024 : Nat) : Int) := by
 have hmod := h.holds.ok.mod
 rw [h.size] at hmod
 have hsz := h.holds.size
 have hpl := (h.holds.ok.place (k := 1) (by omega)).1
 rw [h.size, Nat.one_mul] at hpl
 have hfin := (h.holds.ok.fin (by omega)).1
 obtain ⟨ps1, ps2, e1, e2⟩ := fit_split S.ps S.R.start (S.R.start + 1024) h.fit (by omega) (by omega) (by omega)
 have hf := h.fit
 rw [e1, fitL_append] at hf
 have hr : S.recs = recs S.R.start ps1 ++ recs (S.R.start + 1024) ps2 := by
  show recs S.R.start S.ps = _
  rw [e1, recs_append, e2]
 rw [e2] at hf
 refine ⟨ps1, ps2, e1, by omega, hr, hf.2, ?_⟩
 unfold placeN numsI
 rw [hr, List.map_append, List.countP_append]
 have h1 : ((recs S.R.start ps1).map fun x => (x.1 : Int)).countP (· < ((S.R.start + 1024 : Nat) : Int)) = (recs S.R.start ps1).length := by
  rw [List.countP_eq_length.2 (fun x hx => ?_), List.length_map]
  obtain ⟨y, hy, rfl⟩ := List.mem_map.1 hx
  have := recs_range ps1 _ hf.1 y hy
  have := (recB_bounds this.2.2.1 this.2.2.2.1).1
  simp; omega
 have h3 : ((recs (S.R.start + 1024) ps2).map fun x => (x.1 : Int)).countP (· < ((S.R.start + 1024 : Nat) : Int)) = 0 := by
  rw [List.countP_eq_zero]
  intro x hx
  obtain ⟨y, hy, rfl⟩ := List.mem_map.1 hx
  have := recs_range ps2 _ hf.2 y hy
  simp; omega
 rw [h1, h3, Nat.add_zero]
theorem drop_getLast {A B : List (Nat × MsgS)} {last : Int} (h : BornIs (A ++ B) last) : BornIs B last := fun x hx => by
 refine h x ?_
 rw [List.getLast?_append, hx]; rfl
set_option maxHeartbeats 8000000 in
theorem Drop_any (w : World) (h : Tp W t p n S G w) (ha : Able S.D c m) (hn : n ≤ 1000000) (hfin : S.R.fin ≤ 1000000) :
  Calls Tryz.prog 32 #[ptrTo t] w (DropDone W t p n c m S G w) := by
 obtain ⟨r, sb, mb, F, v, iv, hT, hG⟩ := h.at_
 have H := box h
 have HG := box hG
 obtain ⟨c0, c1, c2, c3, c4, clt⟩ := hT.cells
 by_cases h2 : S.R.cnt < 2
 ·have hA := drop_bad (R := S.R) ha.alive h2
  have hd : Box (Calls Tryz.prog 81 #[ptrTo r] w fun e w' => e = .returned (.tuple #[.int .i64 0, .int .i64 9]) ∧ DropDone W t p n c m S G w (.returned (.tuple #[.int .i64 0, .int .i64 9])) w') := by
   refine box ((sg.Drop_any w hT.seg hn).mono ?_)
   rintro e w' ⟨F', v', rfl, hS, hT2⟩
   rw [hA] at hS ⊢
   exact ⟨rfl, .inl ⟨h2, rfl, _, ⟨⟨r, sb, mb, F', v', iv, hT.step hS hT2, fun _ => Iff.rfl⟩, H.out.holds, H.out.fit, H.out.size, H.out.head, H.out.born⟩, Step.iff (hT.foot_step hT2) hG (fun _ => Iff.rfl)⟩⟩
  clear hT hG h hA h2
  go_enter Tryz.func32, Tryz.ntmps32
  go_wp2_with fail
  refine hd.out.mono ?_
  rintro e w1 ⟨rfl, hr⟩
  have HR := box hr
  clear hr hd
  go_wp2_with fail
  go_ret2
  exact HR.out
 ·obtain ⟨E, e1, e2, e3, e4⟩ := h.holds.drop ha (by omega)
  obtain ⟨ps1, ps2, p1, p2, p3, p4, p5⟩ := recs_split h (by omega)
  rw [h.size] at e1 e2
  have hfew := h.few.2
  have hrise := h.rises
  have hd : Box (Calls Tryz.prog 81 #[ptrTo r] w fun e w' => e = .returned (.tuple #[.int .i64 ((S.R.start + 1024 : Nat) : Int), .int .i64 0]) ∧ ∃ F' v', TpIn W w' t p n r sb mb E S.R.rest S.recs S.last F' v' iv ∧ Step (tfoot t r sb mb F v iv) w (tfoot t r sb mb F' v' iv) w') := by
   refine box ((sg.Drop_any w hT.seg hn).mono ?_)
   rintro e w' ⟨F', v', rfl, hS, hT2⟩
   rw [e1] at hS ⊢
   exact ⟨rfl, F', v', hT.step hS hT2, hT.foot_step hT2⟩
  have hle := place_le S.recs ((S.R.start + 1024 : Nat) : Int)
  have hdr : S.recs.drop (placeN S.recs ((S.R.start + 1024 : Nat) : Int)) = recs (S.R.start + 1024) ps2 := by
   rw [← p5, p3, List.drop_left]
  have Hfin := box (show ∀ w' F' v' iv', TpIn W w' t p n r sb mb E S.R.rest (recs (S.R.start + 1024) ps2) S.last F' v' iv' → Step (tfoot t r sb mb F v iv) w (tfoot t r sb mb F' v' iv') w' → DropDone W t p n c m S G w (.returned (.tuple #[.int .i64 ((S.R.start + 1024 : Nat) : Int), .int .i64 0])) w' from fun w' F' v' iv' k1 k2 => by
   have hst : S.R.rest.start = S.R.start + 1024 := by show S.R.start + S.R.size = _; rw [h.size]
   refine .inr ⟨by omega, rfl, E, _, ps1, ps2, p1, p2, ⟨⟨r, sb, mb, F', v', iv', ?_, fun _ => Iff.rfl⟩, ?_, ?_, h.size, h.head, ?_⟩, Step.iff k2 hG (fun _ => Iff.rfl), e3, by rw [← h.head]; exact e4, by rw [e1]⟩
   ·show TpIn W w' t p n r sb mb E S.R.rest (recs S.R.rest.start ps2) S.last F' v' iv'
    rw [hst]; exact k1
   ·show Holds E S.R.rest (flat ps2)
    rw [p1, flat_append, ← p2, List.drop_left] at e2
    exact e2
   ·show FitL S.R.rest.start ps2
    rw [hst]; exact p4
   ·show BornIs (recs S.R.rest.start ps2) S.last
    rw [hst]
    have := h.born
    rw [p3] at this
    exact drop_getLast this)
  clear hG h e1 e2 e3 e4 p1 p2 p3 p4 p5 h2
  obtain ⟨pl, hplE⟩ : ∃ pl, placeN S.recs ((S.R.start + 1024 : Nat) : Int) = pl := ⟨_, rfl⟩
  rw [hplE] at hle hdr
  obtain ⟨iva, ivc, rfl, _⟩ := row_cap hT.ids
  have Hdr := box hdr
  clear hT hdr
  go_enter Tryz.func32, Tryz.ntmps32
  go_wp2_with fail
  refine hd.out.mono ?_
  rintro e w1 ⟨rfl, F1, v1, hT1, hS1⟩
  have hpl := box (place_any ((S.R.start + 1024 : Nat) : Int) w1 hT1 hrise (by omega))
  rw [hplE] at hpl
  have HT1 := box hT1
  have HS1 := box hS1
  clear hT1 hS1 hd hplE c0 c1 c2 c3 c4 clt
  go_wp2_with fail
  refine hpl.out.mono ?_
  rintro e w2 ⟨rfl, q, rfl⟩
  have HT2 := box (HT1.out.calm ((Calm.refl w1).drewN q))
  have HS2 := box (HS1.out.calm ((Calm.refl w1).drewN q))
  clear HT1 HS1 hpl
  generalize w1.drewN q = w2 at HT2 HS2 ⊢
  obtain ⟨sa, sc, hse, hsl⟩ := slice_to HT2.out.nums hle
  cases hse
  obtain ⟨c0, c1, c2, c3, c4, clt⟩ := HT2.out.cells
  go_wp2_with fail
  have M0 := box (show Keeps (fun b => b = mb) w2 w2 ∧ MapIs w2 mb (.int .i64) ((S.recs.drop 0).map encZ) from ⟨Keeps.refl _ _, HT2.out.sizes⟩)
  have hwlt := HT2.out.sizes.lt
  have hmap0 := HT2.out.sizes
  have HtM := box (show t ≠ mb from fun e => by obtain ⟨es, c, hm, _⟩ := hmap0; rw [← e, HT2.out.obj] at hm; cases hm)
  have hn2 := HT2.out.nums
  have HN2 := box (show ∀ w3, Keeps (fun b => b = mb) w2 w3 → NumsAt w3 S.recs (.slice iva S.recs.length ivc) from fun w3 hk => by
   rcases hn2 with h1 | ⟨bb, cap, h1, h2, h3, h4⟩
   ·exact .inl h1
   ·refine .inr ⟨bb, cap, h1, h2, Nat.lt_of_lt_of_le h3 hk.size, fun j hj => ?_⟩
    have hne : bb ≠ mb := fun e => by
     have hid := HT2.out.ids
     rw [h1] at hid
     obtain ⟨cs, hc⟩ := own_row hid (show (Value.slice (some ⟨bb, 0, none⟩) S.recs.length cap).ownBlock = some bb from rfl)
     obtain ⟨es, c, hm, _⟩ := hmap0
     rw [← e, hc] at hm; cases hm
    rw [World.cell?_of_block (w := w2) (w' := w3) (a := ⟨bb, 0 + j, none⟩) (hk.block bb h3 hne)]
    exact h4 j hj)
  have Hmap0 := box hmap0
  clear hwlt hmap0 hn2 c0 c1 c2 c3 c4 clt
  go_loopw [32] (fun kv wr => ∃ k : Nat, k ≤ pl ∧ kv = .int .i64 (k : Int) ∧ Box (Keeps (fun b => b = mb) w2 wr ∧ MapIs wr mb (.int .i64) ((S.recs.drop k).map encZ))) (fun kv _ => pl - (intOf kv).toNat)
  case atStart => exact ⟨0, Nat.zero_le _, rfl, M0⟩
  case round =>
   obtain ⟨k, hk, rfl, HM⟩ := hrel
   obtain ⟨wo, hwo⟩ : ∃ wo : World, wo = wr := ⟨_, rfl⟩
   subst hwo
   have hobj := (HM.out.1.block t (heap_lt HT2.out.obj) HtM.out).trans HT2.out.obj
   have c0 := cell_of hobj 0
   have c1 := cell_of hobj 1
   have c2 := cell_of hobj 2
   have c3 := cell_of hobj 3
   have clt := heap_lt hobj
   have Hobj := box hobj
   clear M0 hobj
   by_cases hkl : k < pl
   ·have hkr : k < S.recs.length := by omega
    obtain ⟨x, hx⟩ : ∃ x, S.recs[k] = x := ⟨_, rfl⟩
    have hmk := HM.out.2
    have hdk : S.recs.drop k = x :: S.recs.drop (k + 1) := by rw [List.drop_eq_getElem_cons hkr, hx]
    rw [hdk, List.map_cons] at hmk
    obtain ⟨o, hrun, hdel⟩ := MapIs.del (P := Tryz.prog) (t := 134) (m1 := []) Tryz.underlying134 Tryz.underlying3 (key := .int .i64 (x.1 : Int)) (v0 := .int .i64 ((recB x.2).size : Int)) hmk rfl
    have HM2 := box (show Keeps (fun b => b = mb) w2 (setBlock wo mb o) ∧ MapIs (setBlock wo mb o) mb (.int .i64) ((S.recs.drop (k + 1)).map encZ) from ⟨HM.out.1.setObj (.inl rfl) o, hdel⟩)
    have hrun2 := hrun 134
    rcases HN2.out wo HM.out.1 with ⟨h1, _⟩ | ⟨bb, cap, h1, h2, h3, h4⟩
    ·rw [h1] at hkr; simp at hkr
    ·cases h1
     have hc := h4 k (by rw [nums_length]; exact hkr)
     rw [List.getD_eq_getElem?_getD, List.getElem?_eq_getElem (by rw [nums_length]; exact hkr)] at hc
     simp only [numsI, List.getElem_map, Option.getD_some, hx, Nat.zero_add] at hc
     obtain ⟨id, m⟩ := x
     simp only at hc hrun hrun2
     have t1 : decide (k < pl) = true := decide_eq_true hkl
     have Hh2 := box h2
     clear hmk hdk hdel h4 hx h2
     go_wp2_with fail
     go_roundw
     case rel => exact ⟨k + 1, by omega, by go_num, HM2⟩
     case measure => simp [intOf]; omega
   ·obtain rfl : k = pl := by omega
    have t1 : decide (k < k) = false := decide_eq_false (Nat.lt_irrefl k)
    obtain ⟨sv, hs, hsh, hcl⟩ := clone_nums wo (HN2.out wo HM.out.1) (by omega) hle
    obtain ⟨sa2, sn2, sc2, rfl⟩ := hsh
    have hclone := box (hcl wo (Calm.refl _))
    clear hcl hsl
    go_wp2_with fail
    refine hclone.out.mono ?_
    rintro e w5 ⟨a5, c5, rfl, hr5, hc5⟩
    have hobj5 := heap_calm hc5 Hobj.out
    obtain ⟨k1, k2⟩ := HT2.out.dropped HM.out.1 HM.out.2 hc5 hr5
    rw [Hdr.out] at k1 k2 hr5
    have K1 := box k1
    have K2 := box (Step.trans HS2.out k2)
    rw [Hdr.out]
    have d0 := cell_of hobj5 0
    have d2 := cell_of hobj5 2
    have f2 := free_of hobj5 2
    have dlt := heap_lt hobj5
    clear k1 k2 hr5 hc5 hobj5 hclone hs c0 c1 c2 c3 clt
    go_wp2_with fail
    go_ret2
    exact Hfin.out _ _ _ _ K1.out K2.out
end
section
variable {W w w' : World} {t p n r sb mb c m : Nat} {D D' E : DiskS} {R R' : RowS} {L : List (Nat × MsgS)} {last : Int} {F F' G G' : Nat → Prop} {v v' iv : Value} {S S' : TS} {b : List UInt8} {ps : List Pc} {tl : List UInt8}
structure OpenT (W : World) (p n c m : Nat) (E : DiskS) (R : RowS) (ps : List Pc) (F : Nat → Prop) (w : World) (t : Nat) (D' : DiskS) (R' : RowS) (last : Int) (G' : Nat → Prop) (w' : World) : Prop where
 tp : Tp W t p n ⟨D', R', ps, last⟩ G' w'
 step : Step F w G' w'
 able : Able D' c m
 start : R'.start = R.start
 synced : R'.synced = R'.fin
 fin : R'.fin = R.start + (flat ps).length
 waits : E.waits = [] → D'.waits = []
 only : Only E D' tapeN
 tight : Tight R → Tight R'
def OpenDone (W : World) (p n c m : Nat) (E : DiskS) (R : RowS) (ps : List Pc) (F : Nat → Prop) (w : World) (e : Ending) (w' : World) : Prop :=
 ∃ t D' R' last G', e = .returned (.tuple #[ptrTo t, .int .i64 0]) ∧ w.heap.size ≤ t ∧ OpenT W p n c m E R ps F w t D' R' last G' w'
theorem last_nil {D : DiskS} (h : D.waits = []) (n : ByteArray) : (D.last n).waits = [] := by
 unfold DiskS.last
 split
 ·exact h
 ·unfold DiskS.without DiskS.turn; simp [h]
theorem lasts_nil (l : List ByteArray) : ∀ {D : DiskS}, D.waits = [] → (l.foldl DiskS.last D).waits = [] := by
 induction l with
 | nil => exact fun h => h
 | cons n l ih => exact fun h => ih (last_nil h n)
theorem drops_nil (l : List ByteArray) : ∀ {D : DiskS}, D.waits = [] → (l.foldl DiskS.drop D).waits = [] := by
 induction l with
 | nil => exact fun h => h
 | cons n l ih =>
  intro D h
  refine ih ?_
  unfold DiskS.drop
  split
  ·exact h
  ·unfold DiskS.without; simp [h]
theorem burn_nil {D : DiskS} (h : D.waits = []) : D.burn.waits = [] := by
 rcases burn_cases D with ⟨_, _, h3, _⟩ | ⟨_, _, h3, _⟩ <;> rw [h3, h]
theorem doing_nil {D : DiskS} (h : D.waits = []) {f : DiskS → DiskS} (hf : ∀ D : DiskS, D.waits = [] → (f D).waits = []) : (D.doing f).2.waits = [] := by
 unfold DiskS.doing
 split
 ·exact burn_nil h
 ·exact hf _ (burn_nil h)
theorem sync_nil {D : DiskS} {R : RowS} (h : D.waits = []) : (syncD D R).2.1.waits = [] := by
 unfold syncD
 split
 ·exact h
 ·split
  ·exact h
  ·have h1 : (D.sync (R.dirty.map (nameB R.head))).2.waits = [] := by
    unfold DiskS.sync
    split
    ·exact h
    ·exact doing_nil h (fun D hD => lasts_nil _ hD)
   split
   ·exact h1
   ·exact h1
theorem delete_nil {D : DiskS} (h : D.waits = []) (l : List ByteArray) : (D.delete l).2.waits = [] := by
 unfold DiskS.delete
 split
 ·exact h
 ·exact doing_nil h (fun D hD => drops_nil _ hD)
theorem cut_nil1 {D : DiskS} (h : D.waits = []) (n : ByteArray) (k : Int) : (D.cut n k).2.waits = [] := by
 unfold DiskS.cut
 split
 ·exact h
 ·split
  ·exact h
  ·split
   ·exact h
   ·exact doing_nil h (fun D hD => last_nil (by unfold DiskS.turn; exact hD) _)
theorem cut_nil {D : DiskS} {R : RowS} (h : D.waits = []) (k : Int) : (cutD D R k).2.1.waits = [] := by
 have h1 : (cutA D R k).2.1.waits = [] := by
  unfold cutA
  split
  ·exact h
  ·split <;> exact delete_nil h _
 unfold cutD
 split
 ·exact h
 split
 ·exact h
 split
 ·exact h1
 unfold cutB
 split
 ·split <;> exact cut_nil1 h1 _ _
 ·exact h1
theorem sync_opened (hT : TpIn W w t p n r sb mb D R (recs R.start ps) last F v iv) (hB : BornIs (recs R.start ps) last) (hH : Holds D R (flat ps)) (hf : FitL R.start ps) (hz : R.size = 1024) (hh : R.head = tapeN) (ha : Able D c m) (hn : n ≤ 1000000) (hsy : R.synced ≤ R.fin) :
  Calls Tryz.prog 76 #[ptrTo r] w fun e w' => e = .returned (.int .i64 0) ∧ ∃ D' F', Tp W t p n ⟨D', R.clean, ps, last⟩ (tfoot t r sb mb F' v iv) w' ∧ Step (tfoot t r sb mb F v iv) w (tfoot t r sb mb F' v iv) w' ∧ Able D' c m ∧ (∀ s, D'.bytes s = D.bytes s) ∧ (D.waits = [] → D'.waits = []) := by
 obtain ⟨E, e1, e2, e3, e4⟩ := hH.sync ha hsy
 have hw := fun h => sync_nil (D := D) (R := R) h
 refine (Sync_row w hT.seg hn).mono ?_
 rintro e w' ⟨F', rfl, hS, hT2⟩
 rw [e1] at hS hw ⊢
 exact ⟨rfl, E, F', ⟨⟨r, sb, mb, F', v, iv, hT.step hS hT2, fun _ => Iff.rfl⟩, e2, hf, hz, hh, hB⟩, hT.foot_step hT2, e3, e4, hw⟩
theorem cut_opened (hT : TpIn W w t p n r sb mb D R (recs R.start ps) last F v iv) (hH : Holds D R (flat ps ++ tl)) (hz : R.size = 1024) (hh : R.head = tapeN) (ha : Able D c m) (hn : n ≤ 1000000) (hst : R.synced = R.start) :
  Calls Tryz.prog 75 #[ptrTo r, .int .i64 ((R.start + (flat ps).length : Nat) : Int)] w fun e w' => e = .returned (.int .i64 0) ∧ ∃ D' R' F' v', TpIn W w' t p n r sb mb D' R' (recs R'.start ps) last F' v' iv ∧ Step (tfoot t r sb mb F v iv) w (tfoot t r sb mb F' v' iv) w' ∧ Holds D' R' (flat ps) ∧ Able D' c m ∧ (R'.size = 1024 ∧ R'.head = tapeN ∧ R'.start = R.start ∧ R'.synced ≤ R'.fin ∧ R'.fin = R.start + (flat ps).length) ∧ Tight R' ∧ Only D D' tapeN ∧ (D.waits = [] → D'.waits = []) := by
 have hsz := hH.size
 rw [List.length_append] at hsz
 obtain ⟨E, R', e1, e2, e3, e4, e5, e6, e7, e8, e9, e10, e11⟩ := hH.cut ha hT.seg.disk.form (j := R.start + (flat ps).length) (by omega) (by omega)
 have hw := fun h => cut_nil (D := D) (R := R) h ((R.start + (flat ps).length : Nat) : Int)
 refine (Cut_row ((R.start + (flat ps).length : Nat) : Int) w hT.seg hn).mono ?_
 rintro e w' ⟨F', v', rfl, hS, hT2⟩
 rw [e1] at hS hw ⊢
 have hb : (flat ps ++ tl).take (R.start + (flat ps).length - R.start) = flat ps := by
  rw [show R.start + (flat ps).length - R.start = (flat ps).length by omega, List.take_left]
 rw [hb] at e2
 refine ⟨rfl, E, R', F', v', ?_, hT.foot_step hT2, e2, e3, ⟨e7.trans hz, e6.trans hh, e8, ?_, e10⟩, e5, ?_, hw⟩
 ·rw [e8]; exact hT.step hS hT2
 ·rw [e9, e10, hst]; omega
 ·rw [← hh]; exact e4
set_option maxHeartbeats 8000000 in
theorem Open_any (w : World) (hd : DiskOk w p D F n) (ht : Tab W) (hcW : Calm W w) (hfW : ∀ b, F b → W.heap.size ≤ b) (hn : n ≤ 1000000) (hfn : ∀ f ∈ D.files, f.name.size ≤ 1000000) (hl : D.files.length ≤ 1000000)
  (ho : openD D tapeN 1024 = (0, E, R)) (hH : Holds E R (flat ps ++ tl)) (ha : Able E c m) (hh : R.head = tapeN) (hz : R.size = 1024) (hsy : R.synced = R.start) (hf : FitL R.start ps) (hno : NoPc (R.start + (flat ps).length) tl) (hpl : ps.length ≤ 1000000) :
  Calls Tryz.prog 26 #[ptrTo p] w (OpenDone W p n c m E R ps F w) := by
 have hsz := hH.size
 rw [List.length_append] at hsz
 have hop := box (sg.Open_any tapeN 1024 w hd ht hcW hfW hn (by decide) hfn hl)
 unfold sg.OpenDone at hop
 simp only [ho] at hop
 have hmm := @run_makeMap Tryz.prog
 have HH := box hH
 have HA := box ha
 have HF := box hf
 have HN := box hno
 clear ho hd ht hcW hfW hH ha hf hno
 go_enter Tryz.func26, Tryz.ntmps26
 go_wp2_with fail
 refine hop.out.mono ?_
 rintro e w1 ⟨rv, F1, rfl, hd1, hs1, ⟨h0, _⟩ | ⟨_, r, v, rfl, hr, hS1, hv⟩⟩
 ·exact absurd rfl h0
 have HS1 := box hS1
 have Hs1 := box hs1
 have Hr := box hr
 have Hv := box hv
 have hw01 := hs1.keeps.size
 clear hd1 hs1 hr hv hS1 hop
 go_wp2_with fail
 refine (cr.New_any w1).mono ?_
 rintro e w2 ⟨sb, rfl, htab, hsb, hc2⟩
 go_wp2_with fail
 obtain ⟨w4, hw4⟩ : ∃ w4, (w2.alloc (.map #[] 0)).alloc (.cells #[ptrTo r, ptrTo sb, .slice none 0 0, .map (some w2.heap.size), .int .i64 0] 136) = w4 := ⟨_, rfl⟩
 have hc24 : Calm w2 w4 := by rw [← hw4]; exact ((Calm.refl w2).alloc _).alloc _
 have hobj : w4.heap[w2.heap.size + 1]? = some (.cells #[ptrTo r, ptrTo sb, .slice none 0 0, .map (some w2.heap.size), .int .i64 0] 136 (0, 0)) := by
  have := heap_new (w2.alloc (.map #[] 0)) (.cells #[ptrTo r, ptrTo sb, .slice none 0 0, .map (some w2.heap.size), .int .i64 0] 136)
  rw [World.size_alloc] at this
  rw [← hw4]; exact this
 have hmap : MapIs w4 w2.heap.size (.int .i64) (([] : List (Nat × MsgS)).map encZ) := by
  rw [← hw4]; exact (MapIs.made w2 (.int .i64)).calm ((Calm.refl _).alloc _)
 have hc14 := hc2.trans hc24
 have hW1 := HS1.out.calm.size
 have hw12 := hc2.size
 have hT4 : TpIn W w4 (w2.heap.size + 1) p n r sb w2.heap.size E R [] 0 F1 v (.slice none 0 0) :=
  ⟨HS1.out.drew hc14, hobj, heap_calm hc24 htab, World.ownsRow_nil _ _ _ _, hmap, (fun b hb => by cases hb), (fun hf => by have := HS1.out.disk.foot_lt _ hf; omega), by omega, by omega, by omega⟩
 have hS4 : Step F w (tfoot (w2.heap.size + 1) r sb w2.heap.size F1 v (.slice none 0 0)) w4 := by
  refine ⟨(Hs1.out.keeps).calm hc14, fun b hb => ?_⟩
  rcases hb with hb | (rfl | hb) | rfl | rfl | rfl | hb
  ·exact Hs1.out.foot b hb
  ·exact .inr Hr.out
  ·exact .inr (Hv.out b hb)
  ·exact .inr (by omega)
  ·exact .inr (by omega)
  ·exact .inr (by omega)
  ·cases hb
 have HT4 := box hT4
 have HS4 := box hS4
 have hsc := box (scan_any ps tl w4 hT4 HH.out HA.out.alive HF.out hz HN.out hpl)
 have hlt2 : w.heap.size ≤ w2.heap.size + 1 := by omega
 rw [show (Value.pointer (some ⟨sb, 0, none⟩)) = ptrTo sb from rfl, hw4]
 clear hw4 hc24 hobj hmap hc14 hW1 hw12 hT4 hS4 hc2 htab hsb hw01 hmm
 generalize w2.heap.size + 1 = t at HT4 HS4 hsc hlt2 ⊢
 generalize w2.heap.size = mb at HT4 HS4 hsc ⊢
 refine hsc.out.mono ?_
 rintro e w5 ⟨rfl, iv5, last, hT5, hS5, hB5⟩
 have HT5 := box hT5
 have HS5 := box (Step.trans HS4.out hS5)
 have HB5 := box hB5
 have hend := box (sg.End_any w5 hT5.seg.row)
 have hfle : R.start + (flat ps).length ≤ R.fin := by omega
 have htl : tl = [] ↔ R.start + (flat ps).length = R.fin := by
  rw [← List.length_eq_zero_iff]; omega
 have Hae := box (show R.start + (flat ps).length = R.start + (flat ps).length from rfl)
 clear hT5 hS5 hB5 hsc HT4 HS4 hsz
 by_cases he : R.start + (flat ps).length = R.fin
 ·have ht0 := htl.2 he
  subst ht0
  have hh0 := HH.out
  rw [List.append_nil] at hh0
  have hsync := box (sync_opened HT5.out HB5.out hh0 HF.out hz hh HA.out hn (by omega))
  have He := box he
  have t1 : decide (R.start + (flat ps).length < R.fin) = false := decide_eq_false (by omega)
  rw [he] at t1 ⊢
  have t2 : decide ((R.fin : Int) < (R.fin : Int)) = false := decide_eq_false (by omega)
  clear he htl hfle hh0
  go_wp2_with fail
  refine hend.out.mono ?_
  rintro e w6 ⟨rfl, rfl⟩
  go_wp2_with fail
  refine hsync.out.mono ?_
  rintro e w6 ⟨rfl, D6, F6, hT6, hS6, hA6, hb6, hw6⟩
  have Hres := box (show OpenDone W p n c m E R ps F w (.returned (.tuple #[ptrTo t, .int .i64 0])) w6 from ⟨t, D6, R.clean, last, _, rfl, hlt2, hT6, Step.trans HS5.out hS6, hA6, rfl, rfl, He.out.symm, hw6, fun s _ => hb6 s, fun h => h⟩)
  clear hT6 hS6 hA6 hb6 hw6 hsync hend
  go_wp2_with fail
  go_ret2
  exact Hres.out
 ·have hcut := box (cut_opened HT5.out HH.out hz hh HA.out hn hsy)
  obtain ⟨a, hae⟩ : ∃ a, R.start + (flat ps).length = a := ⟨_, rfl⟩
  rw [hae] at he hcut hfle ⊢
  have t1 : decide (a < R.fin) = true := decide_eq_true (by omega)
  have t2 : decide ((a : Int) < (R.fin : Int)) = true := decide_eq_true (by omega)
  have HAE := box hae
  clear he htl hae
  go_wp2_with fail
  refine hend.out.mono ?_
  rintro e w6 ⟨rfl, rfl⟩
  go_wp2_with fail
  refine hcut.out.mono ?_
  rintro e w6 ⟨rfl, D6, R6, F6, v6, hT6, hS6, hH6, hA6, ⟨z1, z2, z3, z4, z5⟩, hti, hon, hw6⟩
  have hsync := box (sync_opened hT6 (by rw [z3]; exact HB5.out) hH6 (by rw [z3]; exact HF.out) z1 z2 hA6 hn z4)
  have HS6 := box (Step.trans HS5.out hS6)
  have Hx := box (show R6.start = R.start ∧ R6.fin = a ∧ Tight R6 ∧ Only E D6 tapeN ∧ (E.waits = [] → D6.waits = []) from ⟨z3, z5, hti, hon, hw6⟩)
  clear hT6 hS6 hH6 hA6 z1 z2 z3 z4 z5 hti hon hw6 hcut hend
  go_wp2_with fail
  refine hsync.out.mono ?_
  rintro e w7 ⟨rfl, D7, F7, hT7, hS7, hA7, hb7, hw7⟩
  have Hres := box (show OpenDone W p n c m E R ps F w (.returned (.tuple #[ptrTo t, .int .i64 0])) w7 from ⟨t, D7, R6.clean, last, _, rfl, hlt2, hT7, Step.trans HS6.out hS7, hA7, Hx.out.1, rfl, Hx.out.2.1.trans HAE.out.symm, fun h => hw7 (Hx.out.2.2.2.2 h), fun s hs => (hb7 s).trans (Hx.out.2.2.2.1 s hs), fun _ => Hx.out.2.2.1⟩)
  clear hT7 hS7 hA7 hb7 hw7 hsync
  go_wp2_with fail
  go_ret2
  exact Hres.out
end
end Go.Proofs.YtjpokaifbnkmhaaGreatDoor.tp

namespace Go.Proofs.YtjpokaifbnkmhaaGreatDoor.rc
open Go.ChangeShapes Go.WideShapes Go.ChangeAt Go.RowKit Go.Shelf
open nm vs
def MsgR : Reads MsgS := fun w cs m => ∃ kv, cs = (msgA m kv).toList ∧ RowsAt StrR 1 w kv m.keys ∧ m.topic.size ≤ maxLen ∧ m.tag.size ≤ maxLen ∧ m.body.size ≤ maxLen ∧ (-9223372036854775808 ≤ m.kind ∧ m.kind ≤ 9223372036854775807) ∧ (-9223372036854775808 ≤ m.retry ∧ m.retry ≤ 9223372036854775807)
theorem opens_msg : Opens Tryz.prog 62 MsgR := fun H enc w base sp held fuel cs x h => by
 obtain ⟨xs, n, _, _, hlen, hxl, hg⟩ := DataW.trod_struct Tryz.underlying62 h
 rw [show Tryz.prog.cellsOf 62 = 10 by kernel_rfl] at hlen
 match cs, hlen with
 | [c0, c1, c2, c3, c4, c5, c6, c7, c8, c9], _ =>
  have hx : ∀ i, i < xs.length → ∃ y, xs[i]? = some y := fun i hi => ⟨_, List.getElem?_eq_getElem hi⟩
  simp only [List.size_toArray, List.length_cons, List.length_nil] at hxl
  have g0 := hg 0 _ rfl
  have g1 := hg 1 _ rfl
  have g2 := hg 2 _ rfl
  have g3 := hg 3 _ rfl
  have g4 := hg 4 _ rfl
  have g5 := hg 5 _ rfl
  have g6 := hg 6 _ rfl
  have g7 := hg 7 _ rfl
  have g8 := hg 8 _ rfl
  have g9 := hg 9 _ rfl
  clear hg
  rw [List.getElem?_eq_getElem (by omega)] at g0 g1 g2 g3 g4 g5 g6 g7 g8 g9
  obtain ⟨a0, h0, r0, q0⟩ := opens_int Tryz.underlying3 _ _ _ _ _ _ _ _ _ g0
  obtain ⟨a1, h1, _⟩ := opens_int Tryz.underlying3 _ _ _ _ _ _ _ _ _ g1
  obtain ⟨a2, h2, _⟩ := opens_int Tryz.underlying3 _ _ _ _ _ _ _ _ _ g2
  obtain ⟨a3, h3, r3, q3⟩ := opens_int Tryz.underlying3 _ _ _ _ _ _ _ _ _ g3
  obtain ⟨a4, h4, _⟩ := opens_int Tryz.underlying3 _ _ _ _ _ _ _ _ _ g4
  obtain ⟨a5, h5, _⟩ := opens_int Tryz.underlying3 _ _ _ _ _ _ _ _ _ g5
  obtain ⟨a6, h6, r6⟩ := opens_string Tryz.underlying9 _ _ _ _ _ _ _ _ _ g6
  obtain ⟨a7, h7, r7⟩ := opens_string Tryz.underlying9 _ _ _ _ _ _ _ _ _ g7
  obtain ⟨a8, h8, r8⟩ := opens_string Tryz.underlying9 _ _ _ _ _ _ _ _ _ g8
  obtain ⟨a9, kv, h9, r9⟩ := opens_slice (c := 1) Tryz.underlying60 (by kernel_rfl) (by decide) (opens_string Tryz.underlying9) _ _ _ _ _ _ _ _ _ g9
  refine ⟨⟨a0, a1, a2, a3, a4, a5, a6, a7, a8, a9⟩, kv, ?_, r9, r6, r7, r8, ⟨r0, q0⟩, r3, q3⟩
  have n1 : Tryz.prog.cellsOf 3 = 1 := by kernel_rfl
  have n2 : Tryz.prog.cellsOf 9 = 1 := by kernel_rfl
  have n3 : Tryz.prog.cellsOf 60 = 1 := by kernel_rfl
  simp [n1, n2, n3] at h0 h1 h2 h3 h4 h5 h6 h7 h8 h9
  subst h0 h1 h2 h3 h4 h5 h6 h7 h8 h9
  rfl
def Small (m : MsgS) : Prop := m.body.size ≤ 2000 ∧ m.topic.size ≤ 100 ∧ m.tag.size ≤ 100 ∧ m.keys.length ≤ 10 ∧ ∀ s ∈ m.keys, s.size ≤ 100
def GreatDone (m : MsgS) (w : World) (e : Ending) (w' : World) : Prop := ∃ g, e = .returned (.bool g) ∧ Calm w w' ∧ (g = false → Small m)
set_option maxHeartbeats 4000000 in
theorem Great_any (b : Nat) (m : MsgS) (kv : Value) (w : World) (h : MsgAt w b m kv) (hk : StrsAt w kv m.keys) (hs : ∀ s ∈ m.keys, s.size ≤ maxLen) (hz : m.body.size ≤ maxLen ∧ m.topic.size ≤ maxLen ∧ m.tag.size ≤ maxLen ∧ m.keys.length ≤ maxLen) :
  Calls Tryz.prog 25 #[.slice (some ⟨b, 0, none⟩) 1 1] w (GreatDone m w) := by
 obtain ⟨kd, q, du, rt, rf, bn, tp, tg, bd, ks⟩ := m
 simp only at hk hs hz
 obtain ⟨z1, z2, z3, z4⟩ := hz
 obtain ⟨ka, kcap, rfl, hcells⟩ := hk.uni
 have Hc := box hcells
 have Hs := box hs
 unfold maxLen at z1 z2 z3 z4
 have c0 := cell_of h 0
 have c1 := cell_of h 1
 have c2 := cell_of h 2
 have c3 := cell_of h 3
 have c4 := cell_of h 4
 have c5 := cell_of h 5
 have c6 := cell_of h 6
 have c7 := cell_of h 7
 have c8 := cell_of h 8
 have c9 := cell_of h 9
 have hlt := heap_lt h
 have Ha := box ((Calm.refl w).alloc (.cells (msgA ⟨kd, q, du, rt, rf, bn, tp, tg, bd, ks⟩ (.slice ka ks.length kcap)) 62))
 clear h hk hs hcells
 go_enter Tryz.func25, Tryz.ntmps25
 go_wp2_with fail
 go_loopw [9] (fun i wr => (i = .int .i64 0 ∧ wr = w) ∨ (i = .int .i64 1 ∧ Calm w wr ∧ Small ⟨kd, q, du, rt, rf, bn, tp, tg, bd, ks⟩)) (fun i _ => 1 - (intOf i).toNat)
 case atStart => exact .inl ⟨rfl, rfl⟩
 case round =>
  rcases hrel with ⟨rfl, rfl⟩ | ⟨rfl, hcal, hsm⟩
  ·go_wp2_with fail
   all_goals first | (go_ret; exact ⟨true, rfl, Ha.out, fun h => by cases h⟩) | skip
   go_loopw [38] (fun i wr' => ∃ k : Nat, k ≤ ks.length ∧ i = .int .i64 k ∧ Calm wr wr' ∧ ∀ j (hj : j < k) (hj' : j < ks.length), ks[j].size ≤ 100) (fun i _ => ks.length - (intOf i).toNat)
   case atStart => exact ⟨0, Nat.zero_le _, rfl, Ha.out, fun j hj => absurd hj (Nat.not_lt_zero _)⟩
   case round =>
    obtain ⟨k, hk, rfl, hcal, hall⟩ := hrel
    have HC := box hcal
    have HA := box hall
    clear hcal hall c0 c1 c2 c3 c4 c5 c6 c7 c8 c9 hlt
    by_cases hkl : k < ks.length
    ·obtain ⟨kb, koff, rfl, hkb, hkc⟩ := Hc.out k hkl
     have kc := (HC.out.cell (p := ⟨kb, koff + k, none⟩) hkb).trans hkc
     have klt := Nat.lt_of_lt_of_le hkb HC.out.size
     rw [List.getD_eq_getElem?_getD, List.getElem?_eq_getElem hkl] at kc
     simp only [Option.getD_some] at kc
     have HA1 := box (show ks[k].size ≤ 100 → ∀ j (hj : j < k + 1) (hj' : j < ks.length), ks[j].size ≤ 100 from fun h j hj hj' => by
      by_cases e : j = k
      ·subst e; exact h
      ·exact HA.out j (by omega) hj')
     have hss := Hs.out _ (List.getElem_mem hkl)
     obtain ⟨s, hs⟩ : ∃ s, ks[k] = s := ⟨_, rfl⟩
     rw [hs] at kc HA1 hss
     unfold maxLen at hss
     clear hs hkc
     by_cases h100 : 100 < s.size
     ·go_wp2_with fail
      go_ret
      exact ⟨true, rfl, HC.out, fun h => by cases h⟩
     ·go_wp2_with fail
      go_roundw
      case rel => exact ⟨k + 1, by omega, by go_num, HC.out, HA1.out (by omega)⟩
      case measure => simp [intOf]; omega
    ·obtain rfl : k = ks.length := by omega
     have Hsm := box (show Small ⟨kd, q, du, rt, rf, bn, tp, tg, bd, ks⟩ from ⟨by simp only; omega, by simp only; omega, by simp only; omega, by simp only; omega, fun s hs => by
      obtain ⟨j, hj, rfl⟩ := List.mem_iff_getElem.1 hs
      exact HA.out j hj hj⟩)
     go_wp2_with fail
     go_roundw
     case rel => exact .inr ⟨rfl, HC.out, Hsm.out⟩
     case measure => simp [intOf]
  ·go_wp2_with fail
   go_ret
   exact ⟨false, rfl, hcal, fun _ => hsm⟩
theorem MsgR.lasts : MsgR.Lasts := fun _ _ _ _ h hc => by
 obtain ⟨kv, h1, h2, h3⟩ := h
 exact ⟨kv, h1, h2.calm StrR.lasts hc, h3⟩
def MsgZ (m : MsgS) : Prop := m.topic.size ≤ maxLen ∧ m.tag.size ≤ maxLen ∧ m.body.size ≤ maxLen ∧ m.keys.length ≤ maxLen ∧ (∀ s ∈ m.keys, s.size ≤ maxLen) ∧ (-9223372036854775808 ≤ m.kind ∧ m.kind ≤ 9223372036854775807) ∧ (-9223372036854775808 ≤ m.retry ∧ m.retry ≤ 9223372036854775807)
theorem RowsAt.msgs {w : World} {v : Value} {l : List MsgS} (h : RowsAt MsgR 10 w v l) : ∃ a cap, v = .slice a l.length cap ∧ l.length ≤ maxLen ∧ ∀ i (hi : i < l.length), ∃ b off kv, a = some ⟨b, off, none⟩ ∧ b < w.heap.size ∧
  (∀ j, j < 10 → w.cell? ⟨b, off + i * 10 + j, none⟩ = (msgA l[i] kv)[j]?) ∧ StrsAt w kv l[i].keys ∧ MsgZ l[i] := by
 obtain ⟨a, cap, rfl, h2, h3, h4⟩ := h
 refine ⟨a, cap, rfl, by omega, fun i hi => ?_⟩
 obtain ⟨b, off, cs, e, hb, hl, hcell, hr0⟩ := h4 i hi
 unfold MsgR at hr0
 obtain ⟨kv, hr, hk, z1, z2, z3, z4, z5⟩ := hr0
 obtain ⟨k1, k3, k2⟩ := RowsAt.strs hk
 refine ⟨b, off, kv, e, hb, fun j hj => ?_, k1, z1, z2, z3, k2, k3, z4, z5⟩
 rw [hcell j hj, hr]
 simp
end Go.Proofs.YtjpokaifbnkmhaaGreatDoor.rc
