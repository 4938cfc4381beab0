/- Lemmas for this claim. -/
import Derived.Test.YtjpokaifbnkmhaaGreatDoorPk23
set_option maxRecDepth 100000
namespace Go.Proofs.YtjpokaifbnkmhaaGreatDoor.sg
open Go.ChangeShapes Go.WideShapes Go.ChangeAt Go.RowKit
open dk
section
variable {W w w' : World} {r p n : Nat} {R R' R1 : RowS} {v v' v1 : Value} {D D' D1 : DiskS} {F F' F1 : Nat → Prop}
theorem SegAt.turned {wf : World} (h : SegAt W w r p n D R F v) (hk : Keeps (rfoot r v) w wf) (hat : wf.heap[r]? = some (.cells (rowCells p R1 v1) 140 (0, 0))) (hrow : wf.ownsRow 0 3 1 v1 R1.cnt (intN R1.places)) (hg : ∀ g, v1.ownBlock = some g → v.ownBlock = some g ∨ w.heap.size ≤ g) (ok : RowOk R1) :
  SegAt W wf r p n D R1 F v1 ∧ SegStep w r F v wf F v1 := by
 have hst : SegStep w r F v wf F v1 := ⟨hk.mono (fun _ _ hb => .inr hb), fun _ hb => .inl hb, hg⟩
 refine ⟨h.next (h.disk.keep hk (fun b hb hx => ?_)) ⟨hat, hrow, ok⟩ hst, hst⟩
 rcases hx with rfl | hx
 ·exact row_apart h.disk h.row.at_ hb
 ·exact places_apart h.disk h.row hx hb
theorem own_take {b n m cap : Nat} {xs : List Value} {e : TypeId} (h : w.ownsRow 0 e 1 (.slice (some ⟨b, 0, none⟩) n cap) n xs) (hm : m ≤ n) : w.ownsRow 0 e 1 (.slice (some ⟨b, 0, none⟩) m cap) m (xs.take m) := by
 have h1 := h.1
 rcases h.2 with ⟨e, _⟩ | ⟨g, cap', cur, e, hb, hg, hnc, hcm, hcs, htake⟩
 ·cases e
 ·cases e
  refine ⟨by rw [List.length_take]; omega, .inr ⟨b, cap, cur, rfl, Nat.zero_le _, hg, by omega, hcm, hcs, ?_⟩⟩
  rw [← htake, List.take_take]
  congr 1
  omega
theorem own_ints0 {b m cap : Nat} {R1 : RowS} (h : w.ownsRow 0 3 1 (.slice (some ⟨b, 0, none⟩) m cap) m (intN (R1.firsts m).places)) (_h0 : 0 < m) :
  ∃ g', (Value.slice (some ⟨b, 0, none⟩) m cap) = .slice (some ⟨g', 0, none⟩) m cap ∧ g' < w.heap.size ∧ ∀ k, k < m → w.cell? ⟨g', k, none⟩ = some (.int .i64 ((R1.start + k * R1.size : Nat) : Int)) := by
 refine ⟨b, rfl, (h.lt b rfl).2, fun k hk => ?_⟩
 have := h.cells (g := b) rfl k (.int .i64 ((R1.start + k * R1.size : Nat) : Int)) (by
  show ((plc R1.start R1.size m).map _)[k]? = _
  rw [List.getElem?_map, List.getElem?_eq_getElem (by rw [plc_length]; exact hk), plc_get]; rfl)
 rw [add_lit] at this
 exact this
def RowS.cutR (R : RowS) (k : Int) : RowS := if R.keepN k = R.cnt then R else R.firsts (R.keepN k)
theorem cut_facts (h : RowOk R) {j : Nat} (h1 : R.start ≤ j) (h2 : j ≤ R.fin) : RowOk (R.cutR j) ∧ (R.cutR j).start = R.start ∧ (R.cutR j).lastp ≤ j ∧ j ≤ (R.cutR j).fin := by
 have hq : ∀ i, i < R.keepN j → i < R.cnt → cutQ R j (R.start + i * R.size) = false := fun i hi hc => by
  rw [keepN_eq] at hi
  have hg : R.places[i]'(by rw [R.length]; exact hc) = R.start + i * R.size := plc_get _ _ _ _
  cases h : R.places.findIdx? (cutQ R j) with
  | none =>
   rw [List.findIdx?_eq_none_iff] at h
   have := h (R.places[i]'(by rw [R.length]; exact hc)) (List.getElem_mem _)
   rw [hg] at this
   exact this
  | some m =>
   rw [h] at hi
   rw [List.findIdx?_eq_some_iff_getElem] at h
   obtain ⟨_, _, h3⟩ := h
   have := h3 i hi
   rw [hg] at this
   simpa using this
 have hlast : ∀ i, i + 1 ≤ R.keepN j → i < R.cnt → R.start + i * R.size ≤ j := fun i hi hc => by
  have h3 := hq i (by omega) hc
  unfold cutQ at h3
  rw [Bool.and_eq_false_iff, decide_eq_false_iff_not, decide_eq_false_iff_not] at h3
  rcases h3 with h3 | h3 <;> omega
 rcases keepN_cases R j with ⟨_, e⟩ | ⟨_, h3, h4, h5⟩
 ·unfold RowS.cutR
  rw [if_pos e]
  refine ⟨h, rfl, ?_, h2⟩
  by_cases h0 : 0 < R.cnt
  ·exact hlast (R.cnt - 1) (by omega) (by omega)
  ·unfold RowS.lastp
   have : R.cnt = 0 := by omega
   rw [this]
   simpa using h1
 ·unfold RowS.cutR
  rw [if_neg (by omega)]
  obtain ⟨k1, k2, k3⟩ := h.firsts h4 h3
  refine ⟨k1, rfl, hlast (R.keepN j - 1) (by omega) (by omega), ?_⟩
  rw [k2]
  omega
theorem RowOk.fined (h : RowOk R) {j : Nat} (h1 : R.start ≤ j) (h2 : R.lastp ≤ j) (h3 : j ≤ R.fin) : RowOk { R with fin := j } := by
 have := h.ends h1 h2 h3
 exact ⟨this.size, this.head, this.none, this.fin, this.least, this.mod, h.synced⟩
def CutDone (W : World) (r p n : Nat) (D : DiskS) (R : RowS) (F : Nat → Prop) (v : Value) (k : Int) (w : World) (e : Ending) (w' : World) : Prop :=
 ∃ F' v', e = .returned (.int .i64 (cutD D R k).1) ∧ SegAt W w' r p n (cutD D R k).2.1 (cutD D R k).2.2 F' v' ∧ SegStep w r F v w' F' v'
def namesN (R : RowS) (i j : Nat) : List ByteArray := ((R.places.drop i).take j).map (nameB R.head)
theorem names_snoc (R : RowS) (i j : Nat) (h : i + j < R.cnt) : namesN R i (j + 1) = namesN R i j ++ [nameB R.head (R.start + (i + j) * R.size)] := by
 unfold namesN RowS.places
 rw [plc_drop, plc_take _ _ _ _ (by omega), plc_take _ _ _ _ (by omega), plc_snoc, List.map_append, Nat.add_assoc, ← Nat.add_mul]
 rfl
theorem names_len (R : RowS) (i j : Nat) (h : i + j ≤ R.cnt) : (namesN R i j).length = j := by
 unfold namesN
 rw [List.length_map, List.length_take, List.length_drop, R.length]; omega
theorem names_all (R : RowS) (i : Nat) (h : i ≤ R.cnt) : namesN R i (R.cnt - i) = (R.places.drop i).map (nameB R.head) := by
 unfold namesN
 rw [List.take_of_length_le (by rw [List.length_drop, R.length]; exact Nat.le_refl _)]
set_option maxHeartbeats 16000000 in
theorem Cut_row (k : Int) (w : World) (h : SegAt W w r p n D R F v) (hn : n ≤ 1000000) :
  Calls Tryz.prog 75 #[ptrTo r, .int .i64 k] w (CutDone W r p n D R F v k w) := by
 have hcal := ((Calm.refl w).alloc (.cells #[ptrTo r] 119)).alloc (.cells #[.int .i64 k] 3)
 have hbr := heap_old _ (.cells #[.int .i64 k] 3) (heap_new w (.cells #[ptrTo r] 119))
 have hba := heap_new (w.alloc (.cells #[ptrTo r] 119)) (.cells #[.int .i64 k] 3)
 rw [World.size_alloc] at hba
 have hFw := h.disk.foot_lt
 have hrl := heap_lt h.row.at_
 have hvl : ∀ g, v.ownBlock = some g → g < w.heap.size := fun g hg => (h.row.row.lt g hg).2
 have hw0 : ∃ x, (w.alloc (.cells #[ptrTo r] 119)).alloc (.cells #[.int .i64 k] 3) = x := ⟨_, rfl⟩
 obtain ⟨w0, hw0⟩ := hw0
 rw [hw0] at hcal hbr hba
 have HC0 := box hcal
 have H := box (h.drew hcal)
 have HB := box (fun (w' : World) (F' : Nat → Prop) (v' : Value) (s : SegStep w0 r F v w' F' v') => (show w'.heap[w.heap.size]? = some (.cells #[ptrTo r] 119 (0, 0)) ∧ w'.heap[w.heap.size + 1]? = some (.cells #[.int .i64 k] 3 (0, 0)) from
  ⟨s.same hbr (fun hf => by have := hFw _ hf; omega) (by omega) (fun e => by have := hvl _ e; omega), s.same hba (fun hf => by have := hFw _ hf; omega) (by omega) (fun e => by have := hvl _ e; omega)⟩))
 have HDD := box (Down_any w0 H.out.disk.lies)
 have hle := h.row.ok.le
 have hfew := h.row.ok.few
 have hz := h.row.ok.size
 have Hok := box h.row.ok
 have br : w0.cell? ⟨w.heap.size, 0, none⟩ = some (ptrTo r) := cell_of hbr 0
 have ba : w0.cell? ⟨w.heap.size + 1, 0, none⟩ = some (.int .i64 k) := cell_of hba 0
 have blr := heap_lt hbr
 have bla := heap_lt hba
 obtain ⟨c0, c1, c2, c3, c4, c5⟩ := H.out.row.cells
 have hlt := heap_lt H.out.row.at_
 have hFw := box H.out.disk.foot_lt
 have hFw0 := box h.disk.foot_lt
 clear h hcal hbr hba hvl
 have Hw0 := box hw0
 have hwz : w.heap.size + 1 < w0.heap.size := bla
 by_cases hd : D.down = true
 ·have hr : cutD D R k = (8, D, R) := by unfold cutD; rw [if_pos hd]
  have Hr := box hr
  rw [hd] at HDD
  clear hd hr
  go_enter Tryz.func75, Tryz.ntmps75
  go_upto_region 1 with fail
  clear hw0
  go_wp2_with fail
  refine HDD.out.mono ?_
  rintro e w1 ⟨rfl, rfl⟩
  go_wp2_with fail
  go_ret
  exact ⟨F, v, by rw [Hr.out]; rfl, by rw [Hr.out]; exact H.out, SegStep.of_calm HC0.out⟩
 have hdf : D.down = false := by simpa using hd
 rw [hdf] at HDD
 have HBg := box (fun n => Begin_quiet w0 n H.out.row)
 by_cases h1 : k < R.start
 ·have hr : cutD D R k = (2, D, R) := by unfold cutD; rw [if_neg hd, if_pos (.inl h1)]
  have Hr := box hr
  have t1 : decide (k < (R.start : Int)) = true := decide_eq_true h1
  clear hd hr h1
  go_enter Tryz.func75, Tryz.ntmps75
  go_upto_region 1 with fail
  clear hw0
  go_wp2_with fail
  refine HDD.out.mono ?_
  rintro e w1 ⟨rfl, rfl⟩
  go_wp2_with (first | go_quiet ((go_at_call 80; exact HBg.out _)) | fail)
  go_ret
  exact ⟨F, v, by rw [Hr.out]; rfl, by rw [Hr.out]; exact H.out.drew ((Calm.refl _).drewN _), SegStep.of_calm (HC0.out.trans ((Calm.refl _).drewN _))⟩
 have t1 : decide (k < (R.start : Int)) = false := decide_eq_false h1
 by_cases h2 : (R.fin : Int) < k
 ·have hr : cutD D R k = (2, D, R) := by unfold cutD; rw [if_neg hd, if_pos (.inr h2)]
  have Hr := box hr
  have t2 : decide ((R.fin : Int) < k) = true := decide_eq_true h2
  clear hd hr h1 h2
  go_enter Tryz.func75, Tryz.ntmps75
  go_upto_region 1 with fail
  clear hw0
  go_wp2_with fail
  refine HDD.out.mono ?_
  rintro e w1 ⟨rfl, rfl⟩
  go_wp2_with (first | go_quiet ((go_at_call 80; exact HBg.out _)) | fail)
  go_ret
  exact ⟨F, v, by rw [Hr.out]; rfl, by rw [Hr.out]; exact H.out.drew ((Calm.refl _).drewN _), SegStep.of_calm (HC0.out.trans ((Calm.refl _).drewN _))⟩
 have hr0 : cutD D R k = if (cutA D R k).1 ≠ 0 then cutA D R k else cutB (cutA D R k).2.1 (cutA D R k).2.2 k := by
  unfold cutD; rw [if_neg hd, if_neg (by intro h; exact h.elim h1 h2)]
 obtain ⟨j, rfl⟩ : ∃ j : Nat, k = j := ⟨k.toNat, by omega⟩
 have Hf := box (cut_facts Hok.out (j := j) (by omega) (by omega))
 have Hr0 := box hr0
 have t1 : decide (j < R.start) = false := decide_eq_false (by omega)
 have t2 : decide (R.fin < j) = false := decide_eq_false (by omega)
 have hjf : j ≤ R.fin := by omega
 have hjs : R.start ≤ j := by omega
 have hIdx := box (fun (W' : World) (hc : Calm w0 W') => IndexFunc_any (w.heap.size + 1) w.heap.size (j : Int) W' (H.out.row.calm hc) (cell_of (heap_calm hc (HB.out _ _ _ SegStep.refl).2) 0) (cell_of (heap_calm hc (HB.out _ _ _ SegStep.refl).1) 0))
 clear hd hdf hr0 h1 h2
 have hcases := keepN_cases R j
 obtain ⟨ix, hix⟩ : ∃ ix, idxP R j = ix := ⟨_, rfl⟩
 rw [hix] at hcases hIdx
 clear hix
 obtain ⟨a, cap, rfl, hcap, hmx, hel⟩ := H.out.row.uni
 have Hel := box hel
 have Hcap := box hcap
 clear hel hmx hcap
 rcases hcases with ⟨rfl, hk0⟩ | ⟨rfl, hk0, hk1, hk2⟩
 ·have HA := box (show cutA D R j = (0, D, R) by unfold cutA; rw [if_pos hk0])
  have hf := Hf.out
  unfold RowS.cutR at hf
  rw [if_pos hk0] at hf
  have HF1 := box hf
  clear hf hk0 Hf
  go_enter Tryz.func75, Tryz.ntmps75
  go_upto_region 1 with fail
  clear hw0
  go_wp2_with fail
  refine HDD.out.mono ?_
  rintro e w1 ⟨rfl, rfl⟩
  go_wp2_with (first | go_quiet ((go_at_call 80; exact HBg.out _)) | fail)
  refine (hIdx.out _ ((Calm.refl w0).drewN _)).mono ?_
  rintro e w1 ⟨rfl, rfl⟩
  have HT1 := box (SegStep.of_calm (r := r) (F := F) (v := (.slice a R.cnt cap)) ((Calm.refl w0).drewN nq))
  have HS1 := box (H.out.drew ((Calm.refl w0).drewN nq))
  clear c0 c1 c2 c3 c4 c5 hlt br ba blr bla
  go_upto_region 20 with fail
  generalize w0.drewN nq = wq at HT1 HS1 ⊢
  have hlp := HF1.out.2.2.1
  have hjf1 := HF1.out.2.2.2
  have hs1 : (R).start ≤ j := hjs
  have hok1 := HF1.out.1
  have hle1 := hok1.le
  have q1 := (HB.out _ _ _ HT1.out).1
  have q2 := (HB.out _ _ _ HT1.out).2
  have br : wq.cell? ⟨w.heap.size, 0, none⟩ = some (ptrTo r) := cell_of q1 0
  have ba : wq.cell? ⟨w.heap.size + 1, 0, none⟩ = some (.int .i64 (j : Int)) := cell_of q2 0
  have blr := heap_lt q1
  have bla := heap_lt q2
  obtain ⟨c0, c1, c2, c3, c4, c5⟩ := HS1.out.row.cells
  have hlt := heap_lt HS1.out.row.at_
  clear q1 q2
  by_cases h3 : j < (R).fin
  ·have t3 : decide (j < (R).fin) = true := decide_eq_true h3
   have h0 : 0 < (R).cnt := by
    rcases Nat.eq_zero_or_pos (R).cnt with h0 | h0
    ·have := hok1.none h0; omega
    ·exact h0
   go_upto_region 21 with (first | go_quiet (fail) | fail)
   have HS2 := box (HS1.out.drew ((Calm.refl wq).drewN nq))
   have HT2 := box (HT1.out.calm ((Calm.refl wq).drewN nq))
   clear br ba blr bla c0 c1 c2 c3 c4 c5 hlt
   generalize wq.drewN nq = wp at HS2 HT2 ⊢
   have q1 := (HB.out _ _ _ HT2.out).1
   have q2 := (HB.out _ _ _ HT2.out).2
   have br : wp.cell? ⟨w.heap.size, 0, none⟩ = some (ptrTo r) := cell_of q1 0
   have ba : wp.cell? ⟨w.heap.size + 1, 0, none⟩ = some (.int .i64 (j : Int)) := cell_of q2 0
   have blr := heap_lt q1
   have bla := heap_lt q2
   obtain ⟨c0, c1, c2, c3, c4, c5⟩ := HS2.out.row.cells
   have hlt := heap_lt HS2.out.row.at_
   clear q1 q2
   obtain ⟨g1, cp1, hv1, hcp1, hg1, hc1⟩ := last_cell HS2.out.row h0
   rw [hv1] at c3
   clear hv1
   have hlast1 := hok1.least h0
   have hfew1 := hok1.few
   have hname := box (fun (W' : World) (hc : Calm wp W') => name_any (R).lastp W' (HS2.out.row.calm hc) hlast1 (tab_calm HS2.out.tab' hc))
   have hcut := box (fun (W' : World) (hc : Calm wp W') => Cut_ok (nameB (R).head (R).lastp) ((j : Int) - (R).lastp) W' (HS2.out.disk.calm hc) hn)
   have hK := box (fun (W' : World) (F' : Nat → Prop) (v' : Value) (hs : SegStep w0 r F (.slice a R.cnt cap) W' F' v') (hr : RowAt W' r p (R) (.slice a R.cnt cap)) => (show W'.cell? ⟨w.heap.size, 0, none⟩ = some (ptrTo r) ∧ W'.cell? ⟨w.heap.size + 1, 0, none⟩ = some (.int .i64 (j : Int)) ∧ W'.cell? ⟨r, 0, none⟩ = some (ptrTo p) from
    ⟨cell_of (HB.out _ _ _ hs).1 0, cell_of (HB.out _ _ _ hs).2 0, hr.cells.1⟩))
   have hokj := box (hok1.fined (j := j) hs1 hlp hjf1)
   have hokF := box (hok1.ends (k := j) hs1 hlp hjf1)
   have k1 : IntKind.i64.wrap (((R).cnt : Int) - 1) = (((R).cnt - 1 : Nat) : Int) := by rw [IntWalk.i64_in _ (by omega)]; omega
   have hcutB : ∀ c6 D6, D.cut (nameB (R).head (R).lastp) ((j : Int) - (R).lastp) = (c6, D6) → cutD D R j = if c6 ≠ 0 then (c6, D6, R) else (0, D6, (R).ends j) := fun c6 D6 h => by
    rw [Hr0.out, HA.out, if_neg (fun h => h rfl)]
    unfold cutB
    rw [if_pos (by simp only; omega)]
    simp only [h, Int.toNat_natCast]
   have HcB := box hcutB
   obtain ⟨m1, hm1⟩ : ∃ m, (R).cnt - 1 = m := ⟨_, rfl⟩
   rw [hm1] at hc1 k1
   have hmn1 : m1 < (R).cnt := by omega
   obtain ⟨lp, hlpe⟩ : ∃ lp, (R).lastp = lp := ⟨_, rfl⟩
   rw [hlpe] at hc1 hname hcut hlp HcB
   have k2 : IntKind.i64.wrap ((j : Int) - lp) = (j : Int) - lp := IntWalk.i64_in _ (by omega)
   clear hcutB hm1 hlpe hlast1 hfew1
   go_upto_region 22 with (first | go_quiet (fail) | fail)
   have hCq : Calm wp (wp.drewN nq) := (Calm.refl wp).drewN nq
   have kq0 : (wp.drewN nq).cell? ⟨w.heap.size, 0, none⟩ = some (ptrTo r) := br
   have kq1 : (wp.drewN nq).cell? ⟨w.heap.size + 1, 0, none⟩ = some (.int .i64 (j : Int)) := ba
   have kq2 : (wp.drewN nq).cell? ⟨r, 0, none⟩ = some (ptrTo p) := c0
   have kl0 : w.heap.size < (wp.drewN nq).heap.size := blr
   have kl1 : w.heap.size + 1 < (wp.drewN nq).heap.size := bla
   have kl2 : r < (wp.drewN nq).heap.size := hlt
   clear br ba blr bla c0 c1 c2 c3 c4 c5 hlt hc1 k1
   generalize wp.drewN nq = wt at hCq kq0 kq1 kq2 kl0 kl1 kl2 ⊢
   go_region_held3 (fun w' => w'.cell? ⟨w.heap.size, 0, none⟩ = some (ptrTo r) ∧ w'.cell? ⟨w.heap.size + 1, 0, none⟩ = some (.int .i64 (j : Int)) ∧ w'.cell? ⟨r, 0, none⟩ = some (ptrTo p)) (first
    | go_keep
    | exact hK.out _ _ _ ((HT2.out.calm (by (repeat' (first | (with_reducible exact Calm.refl _) | (with_reducible assumption) | (with_reducible refine Calm.drew ?_) | (with_reducible refine Calm.alloc ?_ _) | (with_reducible refine Calm.trans ?_ (by assumption)))))).trans (SegStep.of_disk hs6)) ((HS2.out.row.calm (by (repeat' (first | (with_reducible exact Calm.refl _) | (with_reducible assumption) | (with_reducible refine Calm.drew ?_) | (with_reducible refine Calm.alloc ?_ _) | (with_reducible refine Calm.trans ?_ (by assumption)))))).step (HS2.out.disk.calm (by (repeat' (first | (with_reducible exact Calm.refl _) | (with_reducible assumption) | (with_reducible refine Calm.drew ?_) | (with_reducible refine Calm.alloc ?_ _) | (with_reducible refine Calm.trans ?_ (by assumption)))))) hs6)
    | exact hK.out _ _ _ (HT2.out.calm (by (repeat' (first | (with_reducible exact Calm.refl _) | (with_reducible assumption) | (with_reducible refine Calm.drew ?_) | (with_reducible refine Calm.alloc ?_ _) | (with_reducible refine Calm.trans ?_ (by assumption)))))) (HS2.out.row.calm (by (repeat' (first | (with_reducible exact Calm.refl _) | (with_reducible assumption) | (with_reducible refine Calm.drew ?_) | (with_reducible refine Calm.alloc ?_ _) | (with_reducible refine Calm.trans ?_ (by assumption))))))) (first
    | (go_at_call 112; refine (hname.out _ (by (repeat' (first | (with_reducible exact Calm.refl _) | (with_reducible assumption) | (with_reducible refine Calm.drew ?_) | (with_reducible refine Calm.alloc ?_ _) | (with_reducible refine Calm.trans ?_ (by assumption)))))).mono ?_; rintro e w5 ⟨rfl, hc5⟩)
    | (go_at_call 124; refine (hcut.out _ (by (repeat' (first | (with_reducible exact Calm.refl _) | (with_reducible assumption) | (with_reducible refine Calm.drew ?_) | (with_reducible refine Calm.alloc ?_ _) | (with_reducible refine Calm.trans ?_ (by assumption)))))).mono ?_; rintro e w6 ⟨rfl, F6, hd6, hs6⟩))
   have HC5 := box (show Calm wp w5 by (repeat' (first | (with_reducible exact Calm.refl _) | (with_reducible assumption) | (with_reducible refine Calm.drew ?_) | (with_reducible refine Calm.alloc ?_ _) | (with_reducible refine Calm.trans ?_ (by assumption)))))
   have hS6 := (HS2.out.drew HC5.out).disked hd6 hs6
   obtain ⟨⟨c6, D6⟩, hr6⟩ : ∃ x, D.cut (nameB (R).head lp) ((j : Int) - lp) = x := ⟨_, rfl⟩
   have hp6 := HcB.out c6 D6 hr6
   rw [hr6] at hS6 ⊢
   simp only at hS6 ⊢
   have Hp6 := box hp6
   have HS6 := box hS6.1
   have HT6 := box (HT2.out.trans (SegStep.trans (SegStep.of_calm HC5.out) hS6.2))
   clear hS6 hd6 hs6 hr6 hp6 hc5 hname hcut hCq kq0 kq1 kq2 kl0 kl1 kl2
   rcases err_cases c6 with rfl | ⟨y1, y2, y3⟩
   ·have q1 := (HB.out _ _ _ HT6.out).1
    have q2 := (HB.out _ _ _ HT6.out).2
    have br : w6.cell? ⟨w.heap.size, 0, none⟩ = some (ptrTo r) := cell_of q1 0
    have ba : w6.cell? ⟨w.heap.size + 1, 0, none⟩ = some (.int .i64 (j : Int)) := cell_of q2 0
    have blr := heap_lt q1
    have bla := heap_lt q2
    have e4 := HS6.out.row.cells.2.2.2.2.1
    have f4 := free_of HS6.out.row.at_ 4
    have elt := heap_lt HS6.out.row.at_
    have hS7 := HS6.out.set (R' := { R with fin := j }) 4 (.int .i64 (j : Int)) rfl ⟨rfl, rfl⟩ hokj.out
    have HS7 := box hS7.1
    have HT7 := box (HT6.out.trans hS7.2)
    clear q1 q2 hS7
    go_upto_region 26 with fail
    obtain ⟨ws, hws⟩ : ∃ x, w6.setCell ⟨r, 4, none⟩ (.int .i64 (j : Int)) = x := ⟨_, rfl⟩
    rw [hws] at HS7 HT7
    rw [hws]
    clear hws br ba blr bla e4 f4 elt
    have q5 : ws.cell? ⟨r, 5, none⟩ = some (.int .i64 (R).synced) := HS7.out.row.cells.2.2.2.2.2
    have q4 : ws.cell? ⟨r, 4, none⟩ = some (.int .i64 (j : Int)) := HS7.out.row.cells.2.2.2.2.1
    have qb : ws.cell? ⟨w.heap.size, 0, none⟩ = some (ptrTo r) := cell_of (HB.out _ _ _ HT7.out).1 0
    have ql := heap_lt HS7.out.row.at_
    have qf := free_of HS7.out.row.at_ 5
    have hg5 : (ws.drew.setCell ⟨r, 5, none⟩ (.int .i64 ((min (R).synced j : Nat) : Int))).cell? ⟨w.heap.size, 0, none⟩ = some (ptrTo r) ∧ (ws.drew.setCell ⟨r, 5, none⟩ (.int .i64 ((min (R).synced j : Nat) : Int))).cell? ⟨r, 4, none⟩ = some (.int .i64 j) := by
     have e1 : ws.drew.heap[r]? = some (.cells (rowCells p ({ R with fin := j }) (.slice a R.cnt cap)) 140 (0, 0)) := HS7.out.row.at_
     have e2 : ws.drew.heap[w.heap.size]? = some (.cells #[ptrTo r] 119 (0, 0)) := (HB.out _ _ _ HT7.out).1
     exact ⟨cell_of ((heap_set_other (by omega) 5 _).trans e2) 0, cell_of (heap_set e1 5 _) 4⟩
    have hS5 := HS7.out.drew ((Calm.refl ws).drew)
    have hS6 := hS5.set (R' := (R).ends j) 5 (.int .i64 ((min (R).synced j : Nat) : Int)) rfl ⟨rfl, rfl⟩ hokF.out
    have HS6 := box hS6.1
    have HT6 := box (HT7.out.trans (SegStep.trans (SegStep.of_calm ((Calm.refl ws).drew)) hS6.2))
    have Hg5 := box hg5
    have hmin : min ((R).synced : Int) (j : Int) = ((min (R).synced j : Nat) : Int) := by omega
    clear hS5 hS6 hg5
    have hfin := (show cutD D R j = (0, D6, (R).ends j) by rw [Hp6.out]; simp)
    refine wp_region_held_drew (S := fun W => Box (W.cell? ⟨w.heap.size, 0, none⟩ = some (ptrTo r)) ∧ Box (W.cell? ⟨r, 4, none⟩ = some (.int .i64 j))) (by kernel_rfl) ⟨box qb, box q4⟩ (fun hHeld => ?_)
    ((refine' wpAnyH_take (i := 0) (v := _) rfl (by kernel_rfl) (by kernel_rfl) (by kernel_rfl) (fun _ _ _ h => h) (Or.inl ⟨by rfl, ?y176⟩) ‹_› ?r176; (case y176 => (intro w hSw; obtain ⟨⟨hSw1⟩, ⟨hSw2⟩⟩ := hSw; go_simp <;> with_reducible rfl))); (refine' wpAnyH_take (i := 1) (v := _) rfl (by kernel_rfl) (by kernel_rfl) (by kernel_rfl) (fun _ _ _ h => h) (Or.inl ⟨by rfl, ?y177⟩) ‹_› ?r177; (case y177 => (intro w hSw; obtain ⟨⟨hSw1⟩, ⟨hSw2⟩⟩ := hSw; go_simp <;> with_reducible rfl)); simp only [List.getElem_toArray, List.getElem_cons_succ, List.getElem_cons_zero, Act.put, List.setIfInBounds_toArray, List.set_cons_zero, List.set_cons_succ]))
    ((refine' wpAnyH_take (i := 2) (v := _) rfl (by kernel_rfl) (by kernel_rfl) (by kernel_rfl) (fun _ _ _ h => h) (Or.inl ⟨by rfl, ?y178⟩) ‹_› ?r178; (case y178 => (intro w hSw; (try dsimp only at hSw); go_simp <;> with_reducible rfl))); (refine' wpAnyH_take (i := 3) (v := _) rfl (by kernel_rfl) (by kernel_rfl) (by kernel_rfl) (fun _ _ _ h => h) (Or.inl ⟨by rfl, ?y179⟩) ‹_› ?r179; (case y179 => (intro w hSw; (try dsimp only at hSw); go_simp <;> with_reducible rfl)); simp only [List.getElem_toArray, List.getElem_cons_succ, List.getElem_cons_zero, Act.put, List.setIfInBounds_toArray, List.set_cons_zero, List.set_cons_succ]))
    ((refine' wpAnyH_take (i := 5) (v := _) rfl (by kernel_rfl) (by kernel_rfl) (by kernel_rfl) (fun _ _ _ h => h) (Or.inl ⟨by rfl, ?y180⟩) ‹_› ?r180; (case y180 => (intro w hSw; obtain ⟨⟨hSw1⟩, ⟨hSw2⟩⟩ := hSw; go_simp <;> with_reducible rfl)); simp only [List.getElem_toArray, List.getElem_cons_succ, List.getElem_cons_zero, Act.put, List.setIfInBounds_toArray, List.set_cons_zero, List.set_cons_succ]))
    ((refine' wpAnyH_take (i := 6) (v := _) rfl (by kernel_rfl) (by kernel_rfl) (by kernel_rfl) (fun _ _ _ h => h) (Or.inl ⟨by rfl, ?y181⟩) ‹_› ?r181; (case y181 => (intro w hSw; (try dsimp only at hSw); go_simp <;> with_reducible rfl))); (refine' wpAnyH_take (i := 7) (v := _) rfl (by kernel_rfl) (by kernel_rfl) (by kernel_rfl) (fun _ _ _ h => h) (Or.inl ⟨by rfl, ?y182⟩) ‹_› ?r182; (case y182 => (intro w hSw; (try dsimp only at hSw); go_simp <;> with_reducible rfl)); simp only [List.getElem_toArray, List.getElem_cons_succ, List.getElem_cons_zero, Act.put, List.setIfInBounds_toArray, List.set_cons_zero, List.set_cons_succ]))
    ((refine' wpAnyH_take (i := 8) (v := _) rfl (by kernel_rfl) (by kernel_rfl) (by kernel_rfl) (fun _ _ _ h => h) (Or.inl ⟨by rfl, ?y183⟩) ‹_› ?r183; (case y183 => (intro w hSw; obtain ⟨⟨hSw1⟩, ⟨hSw2⟩⟩ := hSw; go_simp <;> with_reducible rfl)); simp only [List.getElem_toArray, List.getElem_cons_succ, List.getElem_cons_zero, Act.put, List.setIfInBounds_toArray, List.set_cons_zero, List.set_cons_succ]))
    refine wpAnyH_ready (rs := [4]) (by kernel_rfl) (by simp) ?_
    refine AllReadyH.cons rfl (fun K hK => ?_) AllReadyH.nil
    rw [if_pos (by rfl)]
    go_simp
    refine hK.out _ _ ⟨box qb, box q4⟩ (fun hHeld2 => ?_)
    clear hK K
    try simp only [List.getElem_toArray, List.getElem_cons_succ, List.getElem_cons_zero, Act.put, List.setIfInBounds_toArray, List.set_cons_zero, List.set_cons_succ]
    ((refine' wpAnyH_take (i := 9) (v := _) rfl (by kernel_rfl) (by kernel_rfl) (by kernel_rfl) (fun _ _ _ h => h) (Or.inl ⟨by rfl, ?y184⟩) ‹_› ?r184; (case y184 => (intro w hSw; (try dsimp only at hSw); go_simp <;> with_reducible rfl))); (refine' wpAnyH_take (i := 10) (v := _) rfl (by kernel_rfl) (by kernel_rfl) (by kernel_rfl) (fun _ _ _ h => h) (Or.inl ⟨by rfl, ?y185⟩) ‹_› ?r185; (case y185 => (intro w hSw; (try dsimp only at hSw); go_simp <;> with_reducible rfl))); (refine' wpAnyH_take (i := 11) (v := _) rfl (by kernel_rfl) (by kernel_rfl) (by kernel_rfl) (fun _ _ _ h => h) (Or.inl ⟨by rfl, ?y186⟩) ‹_› ?r186; (case y186 => (intro w hSw; (try dsimp only at hSw); go_simp <;> with_reducible rfl)); simp only [List.getElem_toArray, List.getElem_cons_succ, List.getElem_cons_zero, Act.put, List.setIfInBounds_toArray, List.set_cons_zero, List.set_cons_succ]))
    refine wpAnyH_ready (rs := [12]) (by kernel_rfl) (by simp) ?_
    refine AllReadyH.cons rfl (fun K hK => ?_) AllReadyH.nil
    rw [if_pos (by rfl)]
    go_simp
    refine hK.out _ _ ⟨box Hg5.out.1, box Hg5.out.2⟩ (fun _ => ?_)
    clear hK K
    try simp only [List.getElem_toArray, List.getElem_cons_succ, List.getElem_cons_zero, Act.put, List.setIfInBounds_toArray, List.set_cons_zero, List.set_cons_succ]
    refine wpAnyH_done (by kernel_rfl) ?_ _
    go_wp2_with fail
    go_ret
    exact ⟨_, _, by rw [hfin]; rfl, by rw [hfin]; exact HS6.out, (SegStep.of_calm HC0.out).trans HT6.out⟩
   ·go_wp2_with fail
    go_ret
    have hr : cutD D R j = (c6, D6, R) := by rw [Hp6.out, if_pos y1.out]
    exact ⟨F6, _, by rw [hr]; rfl, by rw [hr]; exact HS6.out, (SegStep.of_calm HC0.out).trans HT6.out⟩
  ·have t3 : decide (j < (R).fin) = false := decide_eq_false h3
   go_upto_region 26 with (first | go_quiet (fail) | fail)
   have f5 := free_of HS1.out.row.at_ 5
   have q5 : (wq.drewN nq).cell? ⟨r, 5, none⟩ = some (.int .i64 (R).synced) := c5
   have q4 : (wq.drewN nq).cell? ⟨r, 4, none⟩ = some (.int .i64 (R).fin) := c4
   have qb : (wq.drewN nq).cell? ⟨w.heap.size, 0, none⟩ = some (ptrTo r) := br
   have ql : r < (wq.drewN nq).heap.size := hlt
   have qf : (wq.drewN nq).frozen? ⟨r, 5, none⟩ = false := f5
   have HS2 := box (HS1.out.drew ((Calm.refl wq).drewN nq))
   have HT2 := box (HT1.out.calm ((Calm.refl wq).drewN nq))
   clear br ba blr bla c0 c1 c2 c3 c4 c5 hlt f5
   generalize wq.drewN nq = wr at HS2 HT2 q5 q4 qb ql qf ⊢
   have hg5 : (wr.drew.setCell ⟨r, 5, none⟩ (.int .i64 ((min (R).synced (R).fin : Nat) : Int))).cell? ⟨w.heap.size, 0, none⟩ = some (ptrTo r) ∧ (wr.drew.setCell ⟨r, 5, none⟩ (.int .i64 ((min (R).synced (R).fin : Nat) : Int))).cell? ⟨r, 4, none⟩ = some (.int .i64 (R).fin) := by
    have e1 : wr.drew.heap[r]? = some (.cells (rowCells p (R) (.slice a R.cnt cap)) 140 (0, 0)) := HS2.out.row.at_
    have e2 : wr.drew.heap[w.heap.size]? = some (.cells #[ptrTo r] 119 (0, 0)) := (HB.out _ _ _ HT2.out).1
    exact ⟨cell_of ((heap_set_other (by omega) 5 _).trans e2) 0, cell_of (heap_set e1 5 _) 4⟩
   have hS5 := HS2.out.drew ((Calm.refl wr).drew)
   have hS6 := hS5.set (R' := (R).ends (R).fin) 5 (.int .i64 ((min (R).synced (R).fin : Nat) : Int)) rfl ⟨rfl, rfl⟩ (hok1.ends (by omega) (by have := hok1.fin; omega) (Nat.le_refl _))
   have HS6 := box hS6.1
   have HT6 := box (HT2.out.trans (SegStep.trans (SegStep.of_calm ((Calm.refl wr).drew)) hS6.2))
   have Hg5 := box hg5
   have hmin : min ((R).synced : Int) ((R).fin : Int) = ((min (R).synced (R).fin : Nat) : Int) := by omega
   clear hS5 hS6 hg5
   have hfin := (show cutD D R j = (0, D, (R).ends (R).fin) by rw [Hr0.out, HA.out, if_neg (fun h => h rfl)]; unfold cutB; rw [if_neg (by simp only; omega)])
   refine wp_region_held_drew (S := fun W => Box (W.cell? ⟨w.heap.size, 0, none⟩ = some (ptrTo r)) ∧ Box (W.cell? ⟨r, 4, none⟩ = some (.int .i64 (R).fin))) (by kernel_rfl) ⟨box qb, box q4⟩ (fun hHeld => ?_)
   ((refine' wpAnyH_take (i := 0) (v := _) rfl (by kernel_rfl) (by kernel_rfl) (by kernel_rfl) (fun _ _ _ h => h) (Or.inl ⟨by rfl, ?y187⟩) ‹_› ?r187; (case y187 => (intro w hSw; obtain ⟨⟨hSw1⟩, ⟨hSw2⟩⟩ := hSw; go_simp <;> with_reducible rfl))); (refine' wpAnyH_take (i := 1) (v := _) rfl (by kernel_rfl) (by kernel_rfl) (by kernel_rfl) (fun _ _ _ h => h) (Or.inl ⟨by rfl, ?y188⟩) ‹_› ?r188; (case y188 => (intro w hSw; obtain ⟨⟨hSw1⟩, ⟨hSw2⟩⟩ := hSw; go_simp <;> with_reducible rfl)); simp only [List.getElem_toArray, List.getElem_cons_succ, List.getElem_cons_zero, Act.put, List.setIfInBounds_toArray, List.set_cons_zero, List.set_cons_succ]))
   ((refine' wpAnyH_take (i := 2) (v := _) rfl (by kernel_rfl) (by kernel_rfl) (by kernel_rfl) (fun _ _ _ h => h) (Or.inl ⟨by rfl, ?y189⟩) ‹_› ?r189; (case y189 => (intro w hSw; (try dsimp only at hSw); go_simp <;> with_reducible rfl))); (refine' wpAnyH_take (i := 3) (v := _) rfl (by kernel_rfl) (by kernel_rfl) (by kernel_rfl) (fun _ _ _ h => h) (Or.inl ⟨by rfl, ?y190⟩) ‹_› ?r190; (case y190 => (intro w hSw; (try dsimp only at hSw); go_simp <;> with_reducible rfl)); simp only [List.getElem_toArray, List.getElem_cons_succ, List.getElem_cons_zero, Act.put, List.setIfInBounds_toArray, List.set_cons_zero, List.set_cons_succ]))
   ((refine' wpAnyH_take (i := 5) (v := _) rfl (by kernel_rfl) (by kernel_rfl) (by kernel_rfl) (fun _ _ _ h => h) (Or.inl ⟨by rfl, ?y191⟩) ‹_› ?r191; (case y191 => (intro w hSw; obtain ⟨⟨hSw1⟩, ⟨hSw2⟩⟩ := hSw; go_simp <;> with_reducible rfl)); simp only [List.getElem_toArray, List.getElem_cons_succ, List.getElem_cons_zero, Act.put, List.setIfInBounds_toArray, List.set_cons_zero, List.set_cons_succ]))
   ((refine' wpAnyH_take (i := 6) (v := _) rfl (by kernel_rfl) (by kernel_rfl) (by kernel_rfl) (fun _ _ _ h => h) (Or.inl ⟨by rfl, ?y192⟩) ‹_› ?r192; (case y192 => (intro w hSw; (try dsimp only at hSw); go_simp <;> with_reducible rfl))); (refine' wpAnyH_take (i := 7) (v := _) rfl (by kernel_rfl) (by kernel_rfl) (by kernel_rfl) (fun _ _ _ h => h) (Or.inl ⟨by rfl, ?y193⟩) ‹_› ?r193; (case y193 => (intro w hSw; (try dsimp only at hSw); go_simp <;> with_reducible rfl)); simp only [List.getElem_toArray, List.getElem_cons_succ, List.getElem_cons_zero, Act.put, List.setIfInBounds_toArray, List.set_cons_zero, List.set_cons_succ]))
   ((refine' wpAnyH_take (i := 8) (v := _) rfl (by kernel_rfl) (by kernel_rfl) (by kernel_rfl) (fun _ _ _ h => h) (Or.inl ⟨by rfl, ?y194⟩) ‹_› ?r194; (case y194 => (intro w hSw; obtain ⟨⟨hSw1⟩, ⟨hSw2⟩⟩ := hSw; go_simp <;> with_reducible rfl)); simp only [List.getElem_toArray, List.getElem_cons_succ, List.getElem_cons_zero, Act.put, List.setIfInBounds_toArray, List.set_cons_zero, List.set_cons_succ]))
   refine wpAnyH_ready (rs := [4]) (by kernel_rfl) (by simp) ?_
   refine AllReadyH.cons rfl (fun K hK => ?_) AllReadyH.nil
   rw [if_pos (by rfl)]
   go_simp
   refine hK.out _ _ ⟨box qb, box q4⟩ (fun hHeld2 => ?_)
   clear hK K
   try simp only [List.getElem_toArray, List.getElem_cons_succ, List.getElem_cons_zero, Act.put, List.setIfInBounds_toArray, List.set_cons_zero, List.set_cons_succ]
   ((refine' wpAnyH_take (i := 9) (v := _) rfl (by kernel_rfl) (by kernel_rfl) (by kernel_rfl) (fun _ _ _ h => h) (Or.inl ⟨by rfl, ?y195⟩) ‹_› ?r195; (case y195 => (intro w hSw; (try dsimp only at hSw); go_simp <;> with_reducible rfl))); (refine' wpAnyH_take (i := 10) (v := _) rfl (by kernel_rfl) (by kernel_rfl) (by kernel_rfl) (fun _ _ _ h => h) (Or.inl ⟨by rfl, ?y196⟩) ‹_› ?r196; (case y196 => (intro w hSw; (try dsimp only at hSw); go_simp <;> with_reducible rfl))); (refine' wpAnyH_take (i := 11) (v := _) rfl (by kernel_rfl) (by kernel_rfl) (by kernel_rfl) (fun _ _ _ h => h) (Or.inl ⟨by rfl, ?y197⟩) ‹_› ?r197; (case y197 => (intro w hSw; (try dsimp only at hSw); go_simp <;> with_reducible rfl)); simp only [List.getElem_toArray, List.getElem_cons_succ, List.getElem_cons_zero, Act.put, List.setIfInBounds_toArray, List.set_cons_zero, List.set_cons_succ]))
   refine wpAnyH_ready (rs := [12]) (by kernel_rfl) (by simp) ?_
   refine AllReadyH.cons rfl (fun K hK => ?_) AllReadyH.nil
   rw [if_pos (by rfl)]
   go_simp
   refine hK.out _ _ ⟨box Hg5.out.1, box Hg5.out.2⟩ (fun _ => ?_)
   clear hK K
   try simp only [List.getElem_toArray, List.getElem_cons_succ, List.getElem_cons_zero, Act.put, List.setIfInBounds_toArray, List.set_cons_zero, List.set_cons_succ]
   refine wpAnyH_done (by kernel_rfl) ?_ _
   go_wp2_with fail
   go_ret
   exact ⟨_, _, by rw [hfin]; rfl, by rw [hfin]; exact HS6.out, (SegStep.of_calm HC0.out).trans HT6.out⟩
 ·obtain ⟨b, rfl, hb0, _⟩ := Hel.out 0 (by omega)
  have hf := Hf.out
  unfold RowS.cutR at hf
  rw [if_neg (by omega)] at hf
  have hA0 : cutA D R j = if (D.delete ((R.places.drop (R.keepN j)).map (nameB R.head))).1 ≠ 0 then ((D.delete ((R.places.drop (R.keepN j)).map (nameB R.head))).1, (D.delete ((R.places.drop (R.keepN j)).map (nameB R.head))).2, R) else (0, (D.delete ((R.places.drop (R.keepN j)).map (nameB R.head))).2, R.firsts (R.keepN j)) := by unfold cutA; rw [if_neg (by omega)]
  obtain ⟨i, hi⟩ : ∃ i, R.keepN j = i := ⟨_, rfl⟩
  rw [hi] at hf hA0 hk0 hk1 hk2 hIdx
  rw [← names_all R i (by omega)] at hA0
  have HA0 := box hA0
  have HF0 := box hf
  clear hi hf hA0 Hf hb0
  have ht4 : decide ((0 : Int) ≤ (i : Int)) = true := decide_eq_true (by omega)
  have hfull := box (fun m (hm : m < R.cnt - i) (W' : World) (hc : Calm w0 W') => name_any (R.start + (i + m) * R.size) W' (H.out.row.calm hc) (H.out.row.ok.place (by omega)).2 (tab_calm H.out.tab' hc))
  go_enter Tryz.func75, Tryz.ntmps75
  go_upto_region 1 with fail
  clear hw0
  go_wp2_with fail
  refine HDD.out.mono ?_
  rintro e w1 ⟨rfl, rfl⟩
  go_wp2_with (first | go_quiet ((go_at_call 80; exact HBg.out _)) | fail)
  refine (hIdx.out _ ((Calm.refl w0).drewN _)).mono ?_
  rintro e w1 ⟨rfl, rfl⟩
  have HC1 := box ((Calm.refl w0).drewN nq)
  go_upto_region 9 with fail
  clear c0 c1 c2 c3 c4 c5 hlt br ba blr bla
  generalize w0.drewN nq = wp at HC1 ⊢
  have HSp := box (H.out.drew HC1.out)
  have HTp := box (SegStep.of_calm (r := r) (F := F) (v := (.slice (some ⟨b, 0, none⟩) R.cnt cap)) HC1.out)
  have Hcells := box (fun (W' : World) (hc : Calm wp W') => (show W'.cell? ⟨w.heap.size, 0, none⟩ = some (ptrTo r) ∧ w.heap.size < W'.heap.size ∧ W'.cell? ⟨r, 0, none⟩ = some (ptrTo p) ∧ W'.cell? ⟨r, 3, none⟩ = some (.slice (some ⟨b, 0, none⟩) R.cnt cap) ∧ r < W'.heap.size from
   ⟨cell_of (HB.out _ _ _ (HTp.out.calm hc)).1 0, heap_lt (HB.out _ _ _ (HTp.out.calm hc)).1, (HSp.out.row.calm hc).cells.1, (HSp.out.row.calm hc).cells.2.2.2.1, heap_lt (HSp.out.row.calm hc).at_⟩))
  obtain ⟨br, blr, c0, c3, hlt⟩ := Hcells.out wp (Calm.refl _)
  have hic : i ≤ R.cnt := by omega
  have Hcap2 := Hcap.out
  have hicap : i ≤ cap := by omega
  go_wp2_with fail
  go_loopw [6, 49] (fun nv iv wr => ∃ m : Nat, m ≤ R.cnt - i ∧ iv = .int .i64 m ∧ Calm wp wr ∧ wr.ownsRow wp.heap.size 9 1 nv (namesN R i m).length ((namesN R i m).map Value.string)) (fun _ iv _ => R.cnt - i - (intOf iv).toNat)
  case atStart => exact ⟨0, Nat.zero_le _, rfl, Calm.refl _, World.ownsRow_nil _ _ _ _⟩
  case round =>
   obtain ⟨m, hm, rfl, hC, hrow⟩ := hrel
   have HC := box hC
   have hnl := names_len R i m (by omega)
   obtain ⟨na, nc, hnv, hnc⟩ := row_cap hrow
   rw [hnl] at hnv
   subst hnv
   have Hrow := box hrow
   clear hC hrow hnc
   obtain ⟨wo, hwo⟩ : ∃ wo : World, wo = wr := ⟨_, rfl⟩
   subst hwo
   obtain ⟨br, blr, c0, c3, hlt⟩ := Hcells.out wo HC.out
   by_cases hlm : m < R.cnt - i
   ·obtain ⟨b', he, hb, hc⟩ := Hel.out (i + m) (by omega)
    cases he
    have hcc : Calm w0 wo := HC1.out.trans HC.out
    have dc := (hcc.cell (p := ⟨b, i + m, none⟩) hb).trans hc
    have hbl := Nat.lt_of_lt_of_le hb hcc.size
    clear hcc
    have hname := box (fun (W' : World) (hc : Calm wo W') => hfull.out m hlm W' (HC1.out.trans (HC.out.trans hc)))
    have hsn := box (names_snoc R i m (by omega))
    obtain ⟨q, hq⟩ : ∃ q, R.start + (i + m) * R.size = q := ⟨_, rfl⟩
    rw [hq] at dc hname hsn
    clear hc hb hq
    go_wp2_with fail
    refine (hname.out _ (Calm.refl _)).mono ?_
    rintro e w5 ⟨rfl, hc5⟩
    have HC5 := box (HC.out.trans hc5)
    obtain ⟨v2, w6, happ, hrow6, hk6⟩ := append_name (w5.alloc (.cells #[.string (nameB R.head q)] 9)) wp.heap.size (.slice na m nc) (namesN R i m) (nameB R.head q) w5.heap.size ((own_calm Hrow.out hc5).alloc _) (by have := HC5.out.size; rw [World.size_alloc]; omega) (heap_new _ _) (by omega) 60
    obtain ⟨a2, c2', hv2, hc2'⟩ := row_cap hrow6
    rw [List.length_append, List.length_singleton, hnl] at hv2
    subst hv2
    have Happ := box happ
    have Hrow6 := box (show w6.ownsRow wp.heap.size 9 1 (.slice a2 (m + 1) c2') (namesN R i (m + 1)).length ((namesN R i (m + 1)).map Value.string) from by rw [hsn.out]; exact hrow6)
    have HC6 := box (Below.trans (HC5.out.trans ((Calm.refl w5).alloc (.cells #[.string (nameB R.head q)] 9))) (hk6.below (B := wp.heap.size) (by have := HC5.out.size; rw [World.size_alloc]; omega) (fun b h => h)))
    clear happ hrow6 hk6 hc5
    go_wp2_with (first | (at_builtin; refine Lib.wpList_append_run _ rfl _ _ _ _ rfl _ _ rfl rfl _ _ Happ.out ?_) | fail)
    go_roundw
    case rel => exact ⟨m + 1, by omega, by go_num, HC6.out, Hrow6.out⟩
    case measure => simp [intOf]; omega
   ·obtain rfl : m = R.cnt - i := by omega
    have hpF : ∀ x, F x → x < wp.heap.size := fun x hx => Nat.lt_of_lt_of_le (hFw.out x hx) HC1.out.size
    have hdel := box (Delete_ok (.slice na (R.cnt - i) nc) (namesN R i (R.cnt - i)) wo (HSp.out.disk.calm HC.out) hn (strs_own (by rw [hnl]; have h := Hrow.out; rw [hnl] at h; exact h)) (own_apart (l := namesN R i (R.cnt - i)) (by have h := Hrow.out; exact h) hpF) (by rw [hnl]; omega))
    have HS0 := box (HSp.out.drew HC.out)
    have HT0 := box (HTp.out.calm HC.out)
    clear Hrow hpF hnl
    go_wp2_with fail
    refine hdel.out.mono ?_
    intro e w4 h4
    obtain ⟨⟨c4', D4⟩, hr4⟩ : ∃ x, D.delete (namesN R i (R.cnt - i)) = x := ⟨_, rfl⟩
    obtain ⟨rfl, F4, hd4, hs4⟩ := h4.at hr4
    have hA0 := HA0.out
    rw [hr4] at hA0
    have HA1 := box hA0
    have S4 := HS0.out.disked hd4 hs4
    have HS4 := box S4.1
    have HT4 := box (HT0.out.trans S4.2)
    clear hA0 S4 hd4 hs4 h4 hr4 hdel br blr c0 c3 hlt
    rcases err_cases c4' with rfl | ⟨x1, x2, x3⟩
    ·have HF1 := HF0
     have hR1 : ∃ R1, R1 = R.firsts i := ⟨_, rfl⟩
     have q1 := (HB.out _ _ _ HT4.out).1
     have qb : w4.drew.cell? ⟨w.heap.size, 0, none⟩ = some (ptrTo r) := cell_of q1 0
     have c3 : w4.drew.cell? ⟨r, 3, none⟩ = some (.slice (some ⟨b, 0, none⟩) R.cnt cap) := HS4.out.row.cells.2.2.2.1
     have hlt : r < w4.drew.heap.size := heap_lt HS4.out.row.at_
     have f3 : w4.drew.frozen? ⟨r, 3, none⟩ = false := free_of HS4.out.row.at_ 3
     have e1 : w4.drew.heap[w.heap.size]? = some (.cells #[ptrTo r] 119 (0, 0)) := q1
     have e2 : w4.drew.heap[r]? = some (.cells (rowCells p R (.slice (some ⟨b, 0, none⟩) R.cnt cap)) 140 (0, 0)) := HS4.out.row.at_
     have hbr5 := (heap_set_other (w := w4.drew) (b := w.heap.size) (b' := r) (by omega) 3 (.slice (some ⟨b, 0, none⟩) i cap)).trans e1
     have hrr5 := heap_set e2 3 (.slice (some ⟨b, 0, none⟩) i cap)
     have qb5 : (w4.drew.setCell ⟨r, 3, none⟩ (.slice (some ⟨b, 0, none⟩) i cap)).cell? ⟨w.heap.size, 0, none⟩ = some (ptrTo r) := cell_of hbr5 0
     have Hbr5 := box hbr5
     have Hrr5 := box hrr5
     clear hbr5 hrr5 e1 e2 q1
     go_upto_region 18 with fail
     refine wp_region_held_drew (S := fun W => W.cell? ⟨w.heap.size, 0, none⟩ = some (ptrTo r)) (by kernel_rfl) qb (fun hHeld => ?_)
     ((refine' wpAnyH_take (i := 0) (v := _) rfl (by kernel_rfl) (by kernel_rfl) (by kernel_rfl) (fun _ _ _ h => h) (Or.inl ⟨by rfl, ?y198⟩) ‹_› ?r198; (case y198 => (intro w hSw; (try dsimp only at hSw); go_simp <;> with_reducible rfl))); (refine' wpAnyH_take (i := 1) (v := _) rfl (by kernel_rfl) (by kernel_rfl) (by kernel_rfl) (fun _ _ _ h => h) (Or.inl ⟨by rfl, ?y199⟩) ‹_› ?r199; (case y199 => (intro w hSw; (try dsimp only at hSw); go_simp <;> with_reducible rfl))); (refine' wpAnyH_take (i := 2) (v := _) rfl (by kernel_rfl) (by kernel_rfl) (by kernel_rfl) (fun _ _ _ h => h) (Or.inl ⟨by rfl, ?y200⟩) ‹_› ?r200; (case y200 => (intro w hSw; (try dsimp only at hSw); go_simp <;> with_reducible rfl))); (refine' wpAnyH_take (i := 3) (v := _) rfl (by kernel_rfl) (by kernel_rfl) (by kernel_rfl) (fun _ _ _ h => h) (Or.inl ⟨by rfl, ?y201⟩) ‹_› ?r201; (case y201 => (intro w hSw; (try dsimp only at hSw); go_simp <;> with_reducible rfl)); simp only [List.getElem_toArray, List.getElem_cons_succ, List.getElem_cons_zero, Act.put, List.setIfInBounds_toArray, List.set_cons_zero, List.set_cons_succ]))
     ((refine' wpAnyH_take (i := 5) (v := _) rfl (by kernel_rfl) (by kernel_rfl) (by kernel_rfl) (fun _ _ _ h => h) (Or.inl ⟨by rfl, ?y202⟩) ‹_› ?r202; (case y202 => (intro w hSw; (try dsimp only at hSw); go_simp <;> with_reducible rfl)); simp only [List.getElem_toArray, List.getElem_cons_succ, List.getElem_cons_zero, Act.put, List.setIfInBounds_toArray, List.set_cons_zero, List.set_cons_succ]))
     refine wpAnyH_ready (rs := [4]) (by kernel_rfl) (by simp) ?_
     refine AllReadyH.cons rfl (fun K hK => ?_) AllReadyH.nil
     rw [if_pos (by rfl)]
     go_simp
     refine hK.out _ _ qb (fun hHeld2 => ?_)
     clear hK K
     try simp only [List.getElem_toArray, List.getElem_cons_succ, List.getElem_cons_zero, Act.put, List.setIfInBounds_toArray, List.set_cons_zero, List.set_cons_succ]
     ((refine' wpAnyH_take (i := 6) (v := _) rfl (by kernel_rfl) (by kernel_rfl) (by kernel_rfl) (fun _ _ _ h => h) (Or.inl ⟨by rfl, ?y203⟩) ‹_› ?r203; (case y203 => (intro w hSw; (try dsimp only at hSw); go_simp <;> with_reducible rfl))); (refine' wpAnyH_take (i := 7) (v := _) rfl (by kernel_rfl) (by kernel_rfl) (by kernel_rfl) (fun _ _ _ h => h) (Or.inl ⟨by rfl, ?y204⟩) ‹_› ?r204; (case y204 => (intro w hSw; (try dsimp only at hSw); go_simp <;> with_reducible rfl))); (refine' wpAnyH_take (i := 8) (v := _) rfl (by kernel_rfl) (by kernel_rfl) (by kernel_rfl) (fun _ _ _ h => h) (Or.inl ⟨by rfl, ?y205⟩) ‹_› ?r205; (case y205 => (intro w hSw; (try dsimp only at hSw); go_simp <;> with_reducible rfl)); simp only [List.getElem_toArray, List.getElem_cons_succ, List.getElem_cons_zero, Act.put, List.setIfInBounds_toArray, List.set_cons_zero, List.set_cons_succ]))
     refine wpAnyH_ready (rs := [9]) (by kernel_rfl) (by simp) ?_
     refine AllReadyH.cons rfl (fun K hK => ?_) AllReadyH.nil
     rw [if_pos (by rfl)]
     go_simp
     refine hK.out _ _ qb5 (fun _ => ?_)
     clear hK K
     try simp only [List.getElem_toArray, List.getElem_cons_succ, List.getElem_cons_zero, Act.put, List.setIfInBounds_toArray, List.set_cons_zero, List.set_cons_succ]
     refine wpAnyH_done (by kernel_rfl) ?_ _
     have hg5 : (w4.setCell ⟨r, 3, none⟩ (.slice (some ⟨b, 0, none⟩) i cap)).drew.heap[r]? = some (.cells #[ptrTo p, .string R.head, .int .i64 R.size, .slice (some ⟨b, 0, none⟩) i cap, .int .i64 R.fin, .int .i64 R.synced] 140 (0, 0)) := Hrr5.out
     have hh5 : (w4.setCell ⟨r, 3, none⟩ (.slice (some ⟨b, 0, none⟩) i cap)).drew.heap[w.heap.size]? = some (.cells #[ptrTo r] 119 (0, 0)) := Hbr5.out
     have hk5 : Keeps (rfoot r (.slice (some ⟨b, 0, none⟩) R.cnt cap)) w4 (w4.setCell ⟨r, 3, none⟩ (.slice (some ⟨b, 0, none⟩) i cap)).drew := ((Keeps.refl _ _).setCell (p := ⟨r, 3, none⟩) (.inl (.inl rfl)) _).drew
     have hbr : b ≠ r := fun e => row_ne HS4.out.row (by rw [e]; rfl)
     have hrow5 : (w4.setCell ⟨r, 3, none⟩ (.slice (some ⟨b, 0, none⟩) i cap)).drew.ownsRow 0 3 1 (.slice (some ⟨b, 0, none⟩) i cap) i (intN (R.firsts i).places) := by
      have h := own_take HS4.out.row.row hic
      have he : (intN R.places).take i = intN (R.firsts i).places := by
       show ((plc R.start R.size R.cnt).map _).take i = (plc R.start R.size i).map _
       rw [← List.map_take, plc_take _ _ _ _ hic]
      rw [he] at h
      exact row_same h (fun g e => heap_set_other (w := w4) (fun e2 => hbr (by cases e; exact e2)) 3 _)
     obtain ⟨w5, hw5⟩ : ∃ x, (w4.setCell ⟨r, 3, none⟩ (.slice (some ⟨b, 0, none⟩) i cap)).drew = x := ⟨_, rfl⟩
     rw [hw5] at hg5 hh5 hk5 hrow5
     go_upto_region 19 with fail
     (try rw [hw5])
     clear hw5 qb5 qb c3 hlt f3 Hbr5 Hrr5
     obtain ⟨g', e', _, hpc0⟩ := (own_ints0 hrow5 (by show 0 < i; omega) : ∃ g', (Value.slice (some ⟨b, 0, none⟩) i cap) = .slice (some ⟨g', 0, none⟩) i cap ∧ g' < w5.heap.size ∧ ∀ m, m < i → w5.cell? ⟨g', m, none⟩ = some (.int .i64 ((R.start + m * R.size : Nat) : Int)))
     cases e'
     have hpc := hpc0 (i - 1) (by omega)
     have d0 : w5.drew.cell? ⟨w.heap.size, 0, none⟩ = some (ptrTo r) := cell_of hh5 0
     have d3 : w5.drew.cell? ⟨r, 3, none⟩ = some (.slice (some ⟨b, 0, none⟩) i cap) := cell_of hg5 3
     have d2 : w5.drew.cell? ⟨r, 2, none⟩ = some (.int .i64 R.size) := cell_of hg5 2
     have d4 : w5.drew.cell? ⟨r, 4, none⟩ = some (.int .i64 R.fin) := cell_of hg5 4
     have f4 : w5.drew.frozen? ⟨r, 4, none⟩ = false := free_of hg5 4
     have dlt : r < w5.drew.heap.size := heap_lt hg5
     have dp : w5.drew.cell? ⟨b, i - 1, none⟩ = some (.int .i64 ((R.start + (i - 1) * R.size : Nat) : Int)) := hpc
     have hsum : R.start + (i - 1) * R.size + R.size = R.start + i * R.size := by
      obtain ⟨c, rfl⟩ : ∃ c, i = c + 1 := ⟨i - 1, by omega⟩
      rw [Nat.add_sub_cancel, Nat.succ_mul]; omega
     have hpl := (Hok.out.place hk0).2
     have k0 : IntKind.i64.wrap ((i : Int) - 1) = ((i - 1 : Nat) : Int) := by rw [IntWalk.i64_in _ (by omega)]; omega
     obtain ⟨y, hy⟩ : ∃ y, R.start + (i - 1) * R.size = y := ⟨_, rfl⟩
     obtain ⟨z, hz'⟩ : ∃ z, R.start + i * R.size = z := ⟨_, rfl⟩
     rw [hy] at dp hsum
     rw [hz'] at hsum hpl
     have k1 : IntKind.i64.wrap ((y : Int) + R.size) = (z : Int) := by rw [IntWalk.i64_in _ (by omega)]; omega
     have hmin : min (R.fin : Int) (z : Int) = ((R.firsts i).fin : Int) := by
      show _ = ((min R.fin (R.start + i * R.size) : Nat) : Int)
      rw [hz']; omega
     obtain ⟨i1, hi1⟩ : ∃ x, i - 1 = x := ⟨_, rfl⟩
     rw [hi1] at dp k0
     have hi2 : i1 < i := by omega
     have hh6 := (heap_set_other (w := w5.drew) (b := w.heap.size) (b' := r) (by omega) 4 (.int .i64 ((R.firsts i).fin : Int))).trans hh5
     have hg6 := heap_set (w := w5.drew) hg5 4 (.int .i64 ((R.firsts i).fin : Int))
     have S0 : Box ((w5.drew.setCell ⟨r, 4, none⟩ (.int .i64 ((R.firsts i).fin : Int))).cell? ⟨w.heap.size, 0, none⟩ = some (ptrTo r) ∧ (w5.drew.setCell ⟨r, 4, none⟩ (.int .i64 ((R.firsts i).fin : Int))).cell? ⟨r, 3, none⟩ = some (.slice (some ⟨b, 0, none⟩) i cap) ∧ (w5.drew.setCell ⟨r, 4, none⟩ (.int .i64 ((R.firsts i).fin : Int))).cell? ⟨r, 2, none⟩ = some (.int .i64 R.size)) := ⟨cell_of hh6 0, cell_of hg6 3, cell_of hg6 2⟩
     have S1 : Box ((w5.drew.setCell ⟨r, 4, none⟩ (.int .i64 ((R.firsts i).fin : Int))).cell? ⟨b, i1, none⟩ = some (.int .i64 (y : Int))) := box (by
      rw [World.cell?_of_block (w := w5.drew) (a := ⟨b, i1, none⟩) (heap_set_other hbr 4 _)]; exact dp)
     have hS7 := HS4.out.turned (R1 := R.firsts i) (v1 := .slice (some ⟨b, 0, none⟩) i cap) (wf := (w5.drew.setCell ⟨r, 4, none⟩ (.int .i64 ((R.firsts i).fin : Int)))) ((hk5.drew).setCell (p := ⟨r, 4, none⟩) (.inl (.inl rfl)) _) hg6 (row_same hrow5 (fun g e => heap_set_other (w := w5.drew) (fun e2 => hbr (by cases e; exact e2)) 4 _)) (fun g e => .inl (by cases e; rfl)) HF0.out.1
     have HS7 := box hS7.1
     have HT7 := box (HT4.out.trans hS7.2)
     have HA := box (show cutA D R j = (0, D4, R.firsts i) by have h := HA1.out; rw [if_neg (fun h => h rfl)] at h; exact h)
     clear hS7 hg6 hh6 hg5 hh5 hk5 hrow5 hpc hpc0 hy hz' hi1 HA1 HA0
     refine wp_region_held_drew (S := fun W => Box (W.cell? ⟨w.heap.size, 0, none⟩ = some (ptrTo r) ∧ W.cell? ⟨r, 3, none⟩ = some (.slice (some ⟨b, 0, none⟩) i cap) ∧ W.cell? ⟨r, 2, none⟩ = some (.int .i64 R.size)) ∧ Box (W.cell? ⟨b, i1, none⟩ = some (.int .i64 (y : Int)))) (by kernel_rfl) ⟨box ⟨d0, d3, d2⟩, box dp⟩ (fun hHeld => ?_)
     ((refine' wpAnyH_take (i := 0) (v := _) rfl (by kernel_rfl) (by kernel_rfl) (by kernel_rfl) (fun _ _ _ h => h) (Or.inl ⟨by rfl, ?y206⟩) ‹_› ?r206; (case y206 => (intro w hSw; obtain ⟨⟨hSw1⟩, ⟨hSw2⟩⟩ := hSw; go_simp <;> with_reducible rfl))); (refine' wpAnyH_take (i := 1) (v := _) rfl (by kernel_rfl) (by kernel_rfl) (by kernel_rfl) (fun _ _ _ h => h) (Or.inl ⟨by rfl, ?y207⟩) ‹_› ?r207; (case y207 => (intro w hSw; obtain ⟨⟨hSw1⟩, ⟨hSw2⟩⟩ := hSw; go_simp <;> with_reducible rfl)); simp only [List.getElem_toArray, List.getElem_cons_succ, List.getElem_cons_zero, Act.put, List.setIfInBounds_toArray, List.set_cons_zero, List.set_cons_succ]))
     ((refine' wpAnyH_take (i := 2) (v := _) rfl (by kernel_rfl) (by kernel_rfl) (by kernel_rfl) (fun _ _ _ h => h) (Or.inl ⟨by rfl, ?y208⟩) ‹_› ?r208; (case y208 => (intro w hSw; (try dsimp only at hSw); go_simp <;> with_reducible rfl))); (refine' wpAnyH_take (i := 3) (v := _) rfl (by kernel_rfl) (by kernel_rfl) (by kernel_rfl) (fun _ _ _ h => h) (Or.inl ⟨by rfl, ?y209⟩) ‹_› ?r209; (case y209 => (intro w hSw; (try dsimp only at hSw); go_simp <;> with_reducible rfl)); simp only [List.getElem_toArray, List.getElem_cons_succ, List.getElem_cons_zero, Act.put, List.setIfInBounds_toArray, List.set_cons_zero, List.set_cons_succ]))
     ((refine' wpAnyH_take (i := 5) (v := _) rfl (by kernel_rfl) (by kernel_rfl) (by kernel_rfl) (fun _ _ _ h => h) (Or.inl ⟨by rfl, ?y210⟩) ‹_› ?r210; (case y210 => (intro w hSw; obtain ⟨⟨hSw1⟩, ⟨hSw2⟩⟩ := hSw; go_simp <;> with_reducible rfl)); simp only [List.getElem_toArray, List.getElem_cons_succ, List.getElem_cons_zero, Act.put, List.setIfInBounds_toArray, List.set_cons_zero, List.set_cons_succ]))
     ((refine' wpAnyH_take (i := 6) (v := _) rfl (by kernel_rfl) (by kernel_rfl) (by kernel_rfl) (fun _ _ _ h => h) (Or.inl ⟨by rfl, ?y211⟩) ‹_› ?r211; (case y211 => (intro w hSw; (try dsimp only at hSw); go_simp <;> with_reducible rfl))); (refine' wpAnyH_take (i := 7) (v := _) rfl (by kernel_rfl) (by kernel_rfl) (by kernel_rfl) (fun _ _ _ h => h) (Or.inl ⟨by rfl, ?y212⟩) ‹_› ?r212; (case y212 => (intro w hSw; (try dsimp only at hSw); go_simp <;> with_reducible rfl)); simp only [List.getElem_toArray, List.getElem_cons_succ, List.getElem_cons_zero, Act.put, List.setIfInBounds_toArray, List.set_cons_zero, List.set_cons_succ]))
     ((refine' wpAnyH_take (i := 8) (v := _) rfl (by kernel_rfl) (by kernel_rfl) (by kernel_rfl) (fun _ _ _ h => h) (Or.inl ⟨by rfl, ?y213⟩) ‹_› ?r213; (case y213 => (intro w hSw; obtain ⟨⟨hSw1⟩, ⟨hSw2⟩⟩ := hSw; go_simp <;> with_reducible rfl)); simp only [List.getElem_toArray, List.getElem_cons_succ, List.getElem_cons_zero, Act.put, List.setIfInBounds_toArray, List.set_cons_zero, List.set_cons_succ]))
     ((refine' wpAnyH_take (i := 9) (v := _) rfl (by kernel_rfl) (by kernel_rfl) (by kernel_rfl) (fun _ _ _ h => h) (Or.inl ⟨by rfl, ?y214⟩) ‹_› ?r214; (case y214 => (intro w hSw; (try dsimp only at hSw); go_simp <;> with_reducible rfl))); (refine' wpAnyH_take (i := 10) (v := _) rfl (by kernel_rfl) (by kernel_rfl) (by kernel_rfl) (fun _ _ _ h => h) (Or.inl ⟨by rfl, ?y215⟩) ‹_› ?r215; (case y215 => (intro w hSw; (try dsimp only at hSw); go_simp <;> with_reducible rfl))); (refine' wpAnyH_take (i := 11) (v := _) rfl (by kernel_rfl) (by kernel_rfl) (by kernel_rfl) (fun _ _ _ h => h) (Or.inl ⟨by rfl, ?y216⟩) ‹_› ?r216; (case y216 => (intro w hSw; (try dsimp only at hSw); go_simp <;> with_reducible rfl)); simp only [List.getElem_toArray, List.getElem_cons_succ, List.getElem_cons_zero, Act.put, List.setIfInBounds_toArray, List.set_cons_zero, List.set_cons_succ]))
     ((refine' wpAnyH_take (i := 12) (v := _) rfl (by kernel_rfl) (by kernel_rfl) (by kernel_rfl) (fun _ _ _ h => h) (Or.inl ⟨by rfl, ?y217⟩) ‹_› ?r217; (case y217 => (intro w hSw; obtain ⟨⟨hSw1⟩, ⟨hSw2⟩⟩ := hSw; go_simp <;> with_reducible rfl))); (refine' wpAnyH_take (i := 13) (v := _) rfl (by kernel_rfl) (by kernel_rfl) (by kernel_rfl) (fun _ _ _ h => h) (Or.inl ⟨by rfl, ?y218⟩) ‹_› ?r218; (case y218 => (intro w hSw; obtain ⟨⟨hSw1⟩, ⟨hSw2⟩⟩ := hSw; go_simp <;> with_reducible rfl)); simp only [List.getElem_toArray, List.getElem_cons_succ, List.getElem_cons_zero, Act.put, List.setIfInBounds_toArray, List.set_cons_zero, List.set_cons_succ]))
     ((refine' wpAnyH_take (i := 14) (v := _) rfl (by kernel_rfl) (by kernel_rfl) (by kernel_rfl) (fun _ _ _ h => h) (Or.inl ⟨by rfl, ?y219⟩) ‹_› ?r219; (case y219 => (intro w hSw; (try dsimp only at hSw); go_simp <;> with_reducible rfl))); (refine' wpAnyH_take (i := 15) (v := _) rfl (by kernel_rfl) (by kernel_rfl) (by kernel_rfl) (fun _ _ _ h => h) (Or.inl ⟨by rfl, ?y220⟩) ‹_› ?r220; (case y220 => (intro w hSw; (try dsimp only at hSw); go_simp <;> with_reducible rfl)); simp only [List.getElem_toArray, List.getElem_cons_succ, List.getElem_cons_zero, Act.put, List.setIfInBounds_toArray, List.set_cons_zero, List.set_cons_succ]))
     ((refine' wpAnyH_take (i := 16) (v := _) rfl (by kernel_rfl) (by kernel_rfl) (by kernel_rfl) (fun _ _ _ h => h) (Or.inl ⟨by rfl, ?y221⟩) ‹_› ?r221; (case y221 => (intro w hSw; obtain ⟨⟨hSw1⟩, ⟨hSw2⟩⟩ := hSw; go_simp <;> with_reducible rfl)); simp only [List.getElem_toArray, List.getElem_cons_succ, List.getElem_cons_zero, Act.put, List.setIfInBounds_toArray, List.set_cons_zero, List.set_cons_succ]))
     ((refine' wpAnyH_take (i := 17) (v := _) rfl (by kernel_rfl) (by kernel_rfl) (by kernel_rfl) (fun _ _ _ h => h) (Or.inl ⟨by rfl, ?y222⟩) ‹_› ?r222; (case y222 => (intro w hSw; (try dsimp only at hSw); go_simp <;> with_reducible rfl)); simp only [List.getElem_toArray, List.getElem_cons_succ, List.getElem_cons_zero, Act.put, List.setIfInBounds_toArray, List.set_cons_zero, List.set_cons_succ]))
     refine wpAnyH_ready (rs := [4]) (by kernel_rfl) (by simp) ?_
     refine AllReadyH.cons rfl (fun K hK => ?_) AllReadyH.nil
     rw [if_pos (by rfl)]
     go_simp
     refine hK.out _ _ ⟨box ⟨d0, d3, d2⟩, box dp⟩ (fun hHeld2 => ?_)
     clear hK K
     try simp only [List.getElem_toArray, List.getElem_cons_succ, List.getElem_cons_zero, Act.put, List.setIfInBounds_toArray, List.set_cons_zero, List.set_cons_succ]
     ((refine' wpAnyH_take (i := 18) (v := _) rfl (by kernel_rfl) (by kernel_rfl) (by kernel_rfl) (fun _ _ _ h => h) (Or.inl ⟨by rfl, ?y223⟩) ‹_› ?r223; (case y223 => (intro w hSw; (try dsimp only at hSw); go_simp <;> with_reducible rfl))); (refine' wpAnyH_take (i := 19) (v := _) rfl (by kernel_rfl) (by kernel_rfl) (by kernel_rfl) (fun _ _ _ h => h) (Or.inl ⟨by rfl, ?y224⟩) ‹_› ?r224; (case y224 => (intro w hSw; (try dsimp only at hSw); go_simp <;> with_reducible rfl))); (refine' wpAnyH_take (i := 20) (v := _) rfl (by kernel_rfl) (by kernel_rfl) (by kernel_rfl) (fun _ _ _ h => h) (Or.inl ⟨by rfl, ?y225⟩) ‹_› ?r225; (case y225 => (intro w hSw; (try dsimp only at hSw); go_simp <;> with_reducible rfl)); simp only [List.getElem_toArray, List.getElem_cons_succ, List.getElem_cons_zero, Act.put, List.setIfInBounds_toArray, List.set_cons_zero, List.set_cons_succ]))
     refine wpAnyH_ready (rs := [21]) (by kernel_rfl) (by simp) ?_
     refine AllReadyH.cons rfl (fun K hK => ?_) AllReadyH.nil
     rw [if_pos (by rfl)]
     go_simp
     refine hK.out _ _ ⟨S0, S1⟩ (fun _ => ?_)
     clear hK K
     try simp only [List.getElem_toArray, List.getElem_cons_succ, List.getElem_cons_zero, Act.put, List.setIfInBounds_toArray, List.set_cons_zero, List.set_cons_succ]
     refine wpAnyH_done (by kernel_rfl) ?_ _
     have HS1 := box (show SegAt W (w5.setCell ⟨r, 4, none⟩ (.int .i64 ((R.firsts i).fin : Int))).drew r p n D4 (R.firsts i) F4 (.slice (some ⟨b, 0, none⟩) i cap) from HS7.out)
     have HT1 := box (show SegStep w0 r F (.slice (some ⟨b, 0, none⟩) R.cnt cap) (w5.setCell ⟨r, 4, none⟩ (.int .i64 ((R.firsts i).fin : Int))).drew F4 (.slice (some ⟨b, 0, none⟩) i cap) from HT7.out)
     have HF1 := HF0
     clear d0 d3 d2 d4 f4 dlt dp S0 S1 HS7 HT7 hHeld hHeld2
     obtain ⟨wq, hwq⟩ : ∃ x, (w5.setCell ⟨r, 4, none⟩ (.int .i64 ((R.firsts i).fin : Int))).drew = x := ⟨_, rfl⟩
     rw [hwq] at HS1 HT1
     go_upto_region 20 with fail
     (try rw [hwq])
     clear hwq
     have hlp := HF1.out.2.2.1
     have hjf1 := HF1.out.2.2.2
     have hs1 : (R.firsts i).start ≤ j := hjs
     have hok1 := HF1.out.1
     have hle1 := hok1.le
     have q1 := (HB.out _ _ _ HT1.out).1
     have q2 := (HB.out _ _ _ HT1.out).2
     have br : wq.cell? ⟨w.heap.size, 0, none⟩ = some (ptrTo r) := cell_of q1 0
     have ba : wq.cell? ⟨w.heap.size + 1, 0, none⟩ = some (.int .i64 (j : Int)) := cell_of q2 0
     have blr := heap_lt q1
     have bla := heap_lt q2
     obtain ⟨c0, c1, c2, c3, c4, c5⟩ := HS1.out.row.cells
     have hlt := heap_lt HS1.out.row.at_
     clear q1 q2
     by_cases h3 : j < (R.firsts i).fin
     ·have t3 : decide (j < (R.firsts i).fin) = true := decide_eq_true h3
      have h0 : 0 < (R.firsts i).cnt := by
       rcases Nat.eq_zero_or_pos (R.firsts i).cnt with h0 | h0
       ·have := hok1.none h0; omega
       ·exact h0
      go_upto_region 21 with (first | go_quiet (fail) | fail)
      have HS2 := box (HS1.out.drew ((Calm.refl wq).drewN nq))
      have HT2 := box (HT1.out.calm ((Calm.refl wq).drewN nq))
      clear br ba blr bla c0 c1 c2 c3 c4 c5 hlt
      generalize wq.drewN nq = wp at HS2 HT2 ⊢
      have q1 := (HB.out _ _ _ HT2.out).1
      have q2 := (HB.out _ _ _ HT2.out).2
      have br : wp.cell? ⟨w.heap.size, 0, none⟩ = some (ptrTo r) := cell_of q1 0
      have ba : wp.cell? ⟨w.heap.size + 1, 0, none⟩ = some (.int .i64 (j : Int)) := cell_of q2 0
      have blr := heap_lt q1
      have bla := heap_lt q2
      obtain ⟨c0, c1, c2, c3, c4, c5⟩ := HS2.out.row.cells
      have hlt := heap_lt HS2.out.row.at_
      clear q1 q2
      obtain ⟨g1, cp1, hv1, hcp1, hg1, hc1⟩ := last_cell HS2.out.row h0
      rw [hv1] at c3
      clear hv1
      have hlast1 := hok1.least h0
      have hfew1 := hok1.few
      have hname := box (fun (W' : World) (hc : Calm wp W') => name_any (R.firsts i).lastp W' (HS2.out.row.calm hc) hlast1 (tab_calm HS2.out.tab' hc))
      have hcut := box (fun (W' : World) (hc : Calm wp W') => Cut_ok (nameB (R.firsts i).head (R.firsts i).lastp) ((j : Int) - (R.firsts i).lastp) W' (HS2.out.disk.calm hc) hn)
      have hK := box (fun (W' : World) (F' : Nat → Prop) (v' : Value) (hs : SegStep w0 r F (.slice (some ⟨b, 0, none⟩) R.cnt cap) W' F' v') (hr : RowAt W' r p (R.firsts i) (.slice (some ⟨b, 0, none⟩) i cap)) => (show W'.cell? ⟨w.heap.size, 0, none⟩ = some (ptrTo r) ∧ W'.cell? ⟨w.heap.size + 1, 0, none⟩ = some (.int .i64 (j : Int)) ∧ W'.cell? ⟨r, 0, none⟩ = some (ptrTo p) from
       ⟨cell_of (HB.out _ _ _ hs).1 0, cell_of (HB.out _ _ _ hs).2 0, hr.cells.1⟩))
      have hokj := box (hok1.fined (j := j) hs1 hlp hjf1)
      have hokF := box (hok1.ends (k := j) hs1 hlp hjf1)
      have k1 : IntKind.i64.wrap (((R.firsts i).cnt : Int) - 1) = (((R.firsts i).cnt - 1 : Nat) : Int) := by rw [IntWalk.i64_in _ (by omega)]; omega
      have hcutB : ∀ c6 D6, D4.cut (nameB (R.firsts i).head (R.firsts i).lastp) ((j : Int) - (R.firsts i).lastp) = (c6, D6) → cutD D R j = if c6 ≠ 0 then (c6, D6, R.firsts i) else (0, D6, (R.firsts i).ends j) := fun c6 D6 h => by
       rw [Hr0.out, HA.out, if_neg (fun h => h rfl)]
       unfold cutB
       rw [if_pos (by simp only; omega)]
       simp only [h, Int.toNat_natCast]
      have HcB := box hcutB
      obtain ⟨m1, hm1⟩ : ∃ m, (R.firsts i).cnt - 1 = m := ⟨_, rfl⟩
      rw [hm1] at hc1 k1
      have hmn1 : m1 < (R.firsts i).cnt := by omega
      obtain ⟨lp, hlpe⟩ : ∃ lp, (R.firsts i).lastp = lp := ⟨_, rfl⟩
      rw [hlpe] at hc1 hname hcut hlp HcB
      have k2 : IntKind.i64.wrap ((j : Int) - lp) = (j : Int) - lp := IntWalk.i64_in _ (by omega)
      clear hcutB hm1 hlpe hlast1 hfew1
      go_upto_region 22 with (first | go_quiet (fail) | fail)
      have hCq : Calm wp (wp.drewN nq) := (Calm.refl wp).drewN nq
      have kq0 : (wp.drewN nq).cell? ⟨w.heap.size, 0, none⟩ = some (ptrTo r) := br
      have kq1 : (wp.drewN nq).cell? ⟨w.heap.size + 1, 0, none⟩ = some (.int .i64 (j : Int)) := ba
      have kq2 : (wp.drewN nq).cell? ⟨r, 0, none⟩ = some (ptrTo p) := c0
      have kl0 : w.heap.size < (wp.drewN nq).heap.size := blr
      have kl1 : w.heap.size + 1 < (wp.drewN nq).heap.size := bla
      have kl2 : r < (wp.drewN nq).heap.size := hlt
      clear br ba blr bla c0 c1 c2 c3 c4 c5 hlt hc1 k1
      generalize wp.drewN nq = wt at hCq kq0 kq1 kq2 kl0 kl1 kl2 ⊢
      go_region_held3 (fun w' => w'.cell? ⟨w.heap.size, 0, none⟩ = some (ptrTo r) ∧ w'.cell? ⟨w.heap.size + 1, 0, none⟩ = some (.int .i64 (j : Int)) ∧ w'.cell? ⟨r, 0, none⟩ = some (ptrTo p)) (first
       | go_keep
       | exact hK.out _ _ _ ((HT2.out.calm (by (repeat' (first | (with_reducible exact Calm.refl _) | (with_reducible assumption) | (with_reducible refine Calm.drew ?_) | (with_reducible refine Calm.alloc ?_ _) | (with_reducible refine Calm.trans ?_ (by assumption)))))).trans (SegStep.of_disk hs6)) ((HS2.out.row.calm (by (repeat' (first | (with_reducible exact Calm.refl _) | (with_reducible assumption) | (with_reducible refine Calm.drew ?_) | (with_reducible refine Calm.alloc ?_ _) | (with_reducible refine Calm.trans ?_ (by assumption)))))).step (HS2.out.disk.calm (by (repeat' (first | (with_reducible exact Calm.refl _) | (with_reducible assumption) | (with_reducible refine Calm.drew ?_) | (with_reducible refine Calm.alloc ?_ _) | (with_reducible refine Calm.trans ?_ (by assumption)))))) hs6)
       | exact hK.out _ _ _ (HT2.out.calm (by (repeat' (first | (with_reducible exact Calm.refl _) | (with_reducible assumption) | (with_reducible refine Calm.drew ?_) | (with_reducible refine Calm.alloc ?_ _) | (with_reducible refine Calm.trans ?_ (by assumption)))))) (HS2.out.row.calm (by (repeat' (first | (with_reducible exact Calm.refl _) | (with_reducible assumption) | (with_reducible refine Calm.drew ?_) | (with_reducible refine Calm.alloc ?_ _) | (with_reducible refine Calm.trans ?_ (by assumption))))))) (first
       | (go_at_call 112; refine (hname.out _ (by (repeat' (first | (with_reducible exact Calm.refl _) | (with_reducible assumption) | (with_reducible refine Calm.drew ?_) | (with_reducible refine Calm.alloc ?_ _) | (with_reducible refine Calm.trans ?_ (by assumption)))))).mono ?_; rintro e w5 ⟨rfl, hc5⟩)
       | (go_at_call 124; refine (hcut.out _ (by (repeat' (first | (with_reducible exact Calm.refl _) | (with_reducible assumption) | (with_reducible refine Calm.drew ?_) | (with_reducible refine Calm.alloc ?_ _) | (with_reducible refine Calm.trans ?_ (by assumption)))))).mono ?_; rintro e w6 ⟨rfl, F6, hd6, hs6⟩))
      have HC5 := box (show Calm wp w5 by (repeat' (first | (with_reducible exact Calm.refl _) | (with_reducible assumption) | (with_reducible refine Calm.drew ?_) | (with_reducible refine Calm.alloc ?_ _) | (with_reducible refine Calm.trans ?_ (by assumption)))))
      have hS6 := (HS2.out.drew HC5.out).disked hd6 hs6
      obtain ⟨⟨c6, D6⟩, hr6⟩ : ∃ x, D4.cut (nameB (R.firsts i).head lp) ((j : Int) - lp) = x := ⟨_, rfl⟩
      have hp6 := HcB.out c6 D6 hr6
      rw [hr6] at hS6 ⊢
      simp only at hS6 ⊢
      have Hp6 := box hp6
      have HS6 := box hS6.1
      have HT6 := box (HT2.out.trans (SegStep.trans (SegStep.of_calm HC5.out) hS6.2))
      clear hS6 hd6 hs6 hr6 hp6 hc5 hname hcut hCq kq0 kq1 kq2 kl0 kl1 kl2
      rcases err_cases c6 with rfl | ⟨y1, y2, y3⟩
      ·have q1 := (HB.out _ _ _ HT6.out).1
       have q2 := (HB.out _ _ _ HT6.out).2
       have br : w6.cell? ⟨w.heap.size, 0, none⟩ = some (ptrTo r) := cell_of q1 0
       have ba : w6.cell? ⟨w.heap.size + 1, 0, none⟩ = some (.int .i64 (j : Int)) := cell_of q2 0
       have blr := heap_lt q1
       have bla := heap_lt q2
       have e4 := HS6.out.row.cells.2.2.2.2.1
       have f4 := free_of HS6.out.row.at_ 4
       have elt := heap_lt HS6.out.row.at_
       have hS7 := HS6.out.set (R' := { R.firsts i with fin := j }) 4 (.int .i64 (j : Int)) rfl ⟨rfl, rfl⟩ hokj.out
       have HS7 := box hS7.1
       have HT7 := box (HT6.out.trans hS7.2)
       clear q1 q2 hS7
       go_upto_region 26 with fail
       obtain ⟨ws, hws⟩ : ∃ x, w6.setCell ⟨r, 4, none⟩ (.int .i64 (j : Int)) = x := ⟨_, rfl⟩
       rw [hws] at HS7 HT7
       rw [hws]
       clear hws br ba blr bla e4 f4 elt
       have q5 : ws.cell? ⟨r, 5, none⟩ = some (.int .i64 (R.firsts i).synced) := HS7.out.row.cells.2.2.2.2.2
       have q4 : ws.cell? ⟨r, 4, none⟩ = some (.int .i64 (j : Int)) := HS7.out.row.cells.2.2.2.2.1
       have qb : ws.cell? ⟨w.heap.size, 0, none⟩ = some (ptrTo r) := cell_of (HB.out _ _ _ HT7.out).1 0
       have ql := heap_lt HS7.out.row.at_
       have qf := free_of HS7.out.row.at_ 5
       have hg5 : (ws.drew.setCell ⟨r, 5, none⟩ (.int .i64 ((min (R.firsts i).synced j : Nat) : Int))).cell? ⟨w.heap.size, 0, none⟩ = some (ptrTo r) ∧ (ws.drew.setCell ⟨r, 5, none⟩ (.int .i64 ((min (R.firsts i).synced j : Nat) : Int))).cell? ⟨r, 4, none⟩ = some (.int .i64 j) := by
        have e1 : ws.drew.heap[r]? = some (.cells (rowCells p ({ R.firsts i with fin := j }) (.slice (some ⟨b, 0, none⟩) i cap)) 140 (0, 0)) := HS7.out.row.at_
        have e2 : ws.drew.heap[w.heap.size]? = some (.cells #[ptrTo r] 119 (0, 0)) := (HB.out _ _ _ HT7.out).1
        exact ⟨cell_of ((heap_set_other (by omega) 5 _).trans e2) 0, cell_of (heap_set e1 5 _) 4⟩
       have hS5 := HS7.out.drew ((Calm.refl ws).drew)
       have hS6 := hS5.set (R' := (R.firsts i).ends j) 5 (.int .i64 ((min (R.firsts i).synced j : Nat) : Int)) rfl ⟨rfl, rfl⟩ hokF.out
       have HS6 := box hS6.1
       have HT6 := box (HT7.out.trans (SegStep.trans (SegStep.of_calm ((Calm.refl ws).drew)) hS6.2))
       have Hg5 := box hg5
       have hmin : min ((R.firsts i).synced : Int) (j : Int) = ((min (R.firsts i).synced j : Nat) : Int) := by omega
       clear hS5 hS6 hg5
       have hfin := (show cutD D R j = (0, D6, (R.firsts i).ends j) by rw [Hp6.out]; simp)
       refine wp_region_held_drew (S := fun W => Box (W.cell? ⟨w.heap.size, 0, none⟩ = some (ptrTo r)) ∧ Box (W.cell? ⟨r, 4, none⟩ = some (.int .i64 j))) (by kernel_rfl) ⟨box qb, box q4⟩ (fun hHeld => ?_)
       ((refine' wpAnyH_take (i := 0) (v := _) rfl (by kernel_rfl) (by kernel_rfl) (by kernel_rfl) (fun _ _ _ h => h) (Or.inl ⟨by rfl, ?y226⟩) ‹_› ?r226; (case y226 => (intro w hSw; obtain ⟨⟨hSw1⟩, ⟨hSw2⟩⟩ := hSw; go_simp <;> with_reducible rfl))); (refine' wpAnyH_take (i := 1) (v := _) rfl (by kernel_rfl) (by kernel_rfl) (by kernel_rfl) (fun _ _ _ h => h) (Or.inl ⟨by rfl, ?y227⟩) ‹_› ?r227; (case y227 => (intro w hSw; obtain ⟨⟨hSw1⟩, ⟨hSw2⟩⟩ := hSw; go_simp <;> with_reducible rfl)); simp only [List.getElem_toArray, List.getElem_cons_succ, List.getElem_cons_zero, Act.put, List.setIfInBounds_toArray, List.set_cons_zero, List.set_cons_succ]))
       ((refine' wpAnyH_take (i := 2) (v := _) rfl (by kernel_rfl) (by kernel_rfl) (by kernel_rfl) (fun _ _ _ h => h) (Or.inl ⟨by rfl, ?y228⟩) ‹_› ?r228; (case y228 => (intro w hSw; (try dsimp only at hSw); go_simp <;> with_reducible rfl))); (refine' wpAnyH_take (i := 3) (v := _) rfl (by kernel_rfl) (by kernel_rfl) (by kernel_rfl) (fun _ _ _ h => h) (Or.inl ⟨by rfl, ?y229⟩) ‹_› ?r229; (case y229 => (intro w hSw; (try dsimp only at hSw); go_simp <;> with_reducible rfl)); simp only [List.getElem_toArray, List.getElem_cons_succ, List.getElem_cons_zero, Act.put, List.setIfInBounds_toArray, List.set_cons_zero, List.set_cons_succ]))
       ((refine' wpAnyH_take (i := 5) (v := _) rfl (by kernel_rfl) (by kernel_rfl) (by kernel_rfl) (fun _ _ _ h => h) (Or.inl ⟨by rfl, ?y230⟩) ‹_› ?r230; (case y230 => (intro w hSw; obtain ⟨⟨hSw1⟩, ⟨hSw2⟩⟩ := hSw; go_simp <;> with_reducible rfl)); simp only [List.getElem_toArray, List.getElem_cons_succ, List.getElem_cons_zero, Act.put, List.setIfInBounds_toArray, List.set_cons_zero, List.set_cons_succ]))
       ((refine' wpAnyH_take (i := 6) (v := _) rfl (by kernel_rfl) (by kernel_rfl) (by kernel_rfl) (fun _ _ _ h => h) (Or.inl ⟨by rfl, ?y231⟩) ‹_› ?r231; (case y231 => (intro w hSw; (try dsimp only at hSw); go_simp <;> with_reducible rfl))); (refine' wpAnyH_take (i := 7) (v := _) rfl (by kernel_rfl) (by kernel_rfl) (by kernel_rfl) (fun _ _ _ h => h) (Or.inl ⟨by rfl, ?y232⟩) ‹_› ?r232; (case y232 => (intro w hSw; (try dsimp only at hSw); go_simp <;> with_reducible rfl)); simp only [List.getElem_toArray, List.getElem_cons_succ, List.getElem_cons_zero, Act.put, List.setIfInBounds_toArray, List.set_cons_zero, List.set_cons_succ]))
       ((refine' wpAnyH_take (i := 8) (v := _) rfl (by kernel_rfl) (by kernel_rfl) (by kernel_rfl) (fun _ _ _ h => h) (Or.inl ⟨by rfl, ?y233⟩) ‹_› ?r233; (case y233 => (intro w hSw; obtain ⟨⟨hSw1⟩, ⟨hSw2⟩⟩ := hSw; go_simp <;> with_reducible rfl)); simp only [List.getElem_toArray, List.getElem_cons_succ, List.getElem_cons_zero, Act.put, List.setIfInBounds_toArray, List.set_cons_zero, List.set_cons_succ]))
       refine wpAnyH_ready (rs := [4]) (by kernel_rfl) (by simp) ?_
       refine AllReadyH.cons rfl (fun K hK => ?_) AllReadyH.nil
       rw [if_pos (by rfl)]
       go_simp
       refine hK.out _ _ ⟨box qb, box q4⟩ (fun hHeld2 => ?_)
       clear hK K
       try simp only [List.getElem_toArray, List.getElem_cons_succ, List.getElem_cons_zero, Act.put, List.setIfInBounds_toArray, List.set_cons_zero, List.set_cons_succ]
       ((refine' wpAnyH_take (i := 9) (v := _) rfl (by kernel_rfl) (by kernel_rfl) (by kernel_rfl) (fun _ _ _ h => h) (Or.inl ⟨by rfl, ?y234⟩) ‹_› ?r234; (case y234 => (intro w hSw; (try dsimp only at hSw); go_simp <;> with_reducible rfl))); (refine' wpAnyH_take (i := 10) (v := _) rfl (by kernel_rfl) (by kernel_rfl) (by kernel_rfl) (fun _ _ _ h => h) (Or.inl ⟨by rfl, ?y235⟩) ‹_› ?r235; (case y235 => (intro w hSw; (try dsimp only at hSw); go_simp <;> with_reducible rfl))); (refine' wpAnyH_take (i := 11) (v := _) rfl (by kernel_rfl) (by kernel_rfl) (by kernel_rfl) (fun _ _ _ h => h) (Or.inl ⟨by rfl, ?y236⟩) ‹_› ?r236; (case y236 => (intro w hSw; (try dsimp only at hSw); go_simp <;> with_reducible rfl)); simp only [List.getElem_toArray, List.getElem_cons_succ, List.getElem_cons_zero, Act.put, List.setIfInBounds_toArray, List.set_cons_zero, List.set_cons_succ]))
       refine wpAnyH_ready (rs := [12]) (by kernel_rfl) (by simp) ?_
       refine AllReadyH.cons rfl (fun K hK => ?_) AllReadyH.nil
       rw [if_pos (by rfl)]
       go_simp
       refine hK.out _ _ ⟨box Hg5.out.1, box Hg5.out.2⟩ (fun _ => ?_)
       clear hK K
       try simp only [List.getElem_toArray, List.getElem_cons_succ, List.getElem_cons_zero, Act.put, List.setIfInBounds_toArray, List.set_cons_zero, List.set_cons_succ]
       refine wpAnyH_done (by kernel_rfl) ?_ _
       go_wp2_with fail
       go_ret
       exact ⟨_, _, by rw [hfin]; rfl, by rw [hfin]; exact HS6.out, (SegStep.of_calm HC0.out).trans HT6.out⟩
      ·go_wp2_with fail
       go_ret
       have hr : cutD D R j = (c6, D6, R.firsts i) := by rw [Hp6.out, if_pos y1.out]
       exact ⟨F6, _, by rw [hr]; rfl, by rw [hr]; exact HS6.out, (SegStep.of_calm HC0.out).trans HT6.out⟩
     ·have t3 : decide (j < (R.firsts i).fin) = false := decide_eq_false h3
      go_upto_region 26 with (first | go_quiet (fail) | fail)
      have f5 := free_of HS1.out.row.at_ 5
      have q5 : (wq.drewN nq).cell? ⟨r, 5, none⟩ = some (.int .i64 (R.firsts i).synced) := c5
      have q4 : (wq.drewN nq).cell? ⟨r, 4, none⟩ = some (.int .i64 (R.firsts i).fin) := c4
      have qb : (wq.drewN nq).cell? ⟨w.heap.size, 0, none⟩ = some (ptrTo r) := br
      have ql : r < (wq.drewN nq).heap.size := hlt
      have qf : (wq.drewN nq).frozen? ⟨r, 5, none⟩ = false := f5
      have HS2 := box (HS1.out.drew ((Calm.refl wq).drewN nq))
      have HT2 := box (HT1.out.calm ((Calm.refl wq).drewN nq))
      clear br ba blr bla c0 c1 c2 c3 c4 c5 hlt f5
      generalize wq.drewN nq = wr at HS2 HT2 q5 q4 qb ql qf ⊢
      have hg5 : (wr.drew.setCell ⟨r, 5, none⟩ (.int .i64 ((min (R.firsts i).synced (R.firsts i).fin : Nat) : Int))).cell? ⟨w.heap.size, 0, none⟩ = some (ptrTo r) ∧ (wr.drew.setCell ⟨r, 5, none⟩ (.int .i64 ((min (R.firsts i).synced (R.firsts i).fin : Nat) : Int))).cell? ⟨r, 4, none⟩ = some (.int .i64 (R.firsts i).fin) := by
       have e1 : wr.drew.heap[r]? = some (.cells (rowCells p (R.firsts i) (.slice (some ⟨b, 0, none⟩) i cap)) 140 (0, 0)) := HS2.out.row.at_
       have e2 : wr.drew.heap[w.heap.size]? = some (.cells #[ptrTo r] 119 (0, 0)) := (HB.out _ _ _ HT2.out).1
       exact ⟨cell_of ((heap_set_other (by omega) 5 _).trans e2) 0, cell_of (heap_set e1 5 _) 4⟩
      have hS5 := HS2.out.drew ((Calm.refl wr).drew)
      have hS6 := hS5.set (R' := (R.firsts i).ends (R.firsts i).fin) 5 (.int .i64 ((min (R.firsts i).synced (R.firsts i).fin : Nat) : Int)) rfl ⟨rfl, rfl⟩ (hok1.ends (by omega) (by have := hok1.fin; omega) (Nat.le_refl _))
      have HS6 := box hS6.1
      have HT6 := box (HT2.out.trans (SegStep.trans (SegStep.of_calm ((Calm.refl wr).drew)) hS6.2))
      have Hg5 := box hg5
      have hmin : min ((R.firsts i).synced : Int) ((R.firsts i).fin : Int) = ((min (R.firsts i).synced (R.firsts i).fin : Nat) : Int) := by omega
      clear hS5 hS6 hg5
      have hfin := (show cutD D R j = (0, D4, (R.firsts i).ends (R.firsts i).fin) by rw [Hr0.out, HA.out, if_neg (fun h => h rfl)]; unfold cutB; rw [if_neg (by simp only; omega)])
      refine wp_region_held_drew (S := fun W => Box (W.cell? ⟨w.heap.size, 0, none⟩ = some (ptrTo r)) ∧ Box (W.cell? ⟨r, 4, none⟩ = some (.int .i64 (R.firsts i).fin))) (by kernel_rfl) ⟨box qb, box q4⟩ (fun hHeld => ?_)
      ((refine' wpAnyH_take (i := 0) (v := _) rfl (by kernel_rfl) (by kernel_rfl) (by kernel_rfl) (fun _ _ _ h => h) (Or.inl ⟨by rfl, ?y237⟩) ‹_› ?r237; (case y237 => (intro w hSw; obtain ⟨⟨hSw1⟩, ⟨hSw2⟩⟩ := hSw; go_simp <;> with_reducible rfl))); (refine' wpAnyH_take (i := 1) (v := _) rfl (by kernel_rfl) (by kernel_rfl) (by kernel_rfl) (fun _ _ _ h => h) (Or.inl ⟨by rfl, ?y238⟩) ‹_› ?r238; (case y238 => (intro w hSw; obtain ⟨⟨hSw1⟩, ⟨hSw2⟩⟩ := hSw; go_simp <;> with_reducible rfl)); simp only [List.getElem_toArray, List.getElem_cons_succ, List.getElem_cons_zero, Act.put, List.setIfInBounds_toArray, List.set_cons_zero, List.set_cons_succ]))
      ((refine' wpAnyH_take (i := 2) (v := _) rfl (by kernel_rfl) (by kernel_rfl) (by kernel_rfl) (fun _ _ _ h => h) (Or.inl ⟨by rfl, ?y239⟩) ‹_› ?r239; (case y239 => (intro w hSw; (try dsimp only at hSw); go_simp <;> with_reducible rfl))); (refine' wpAnyH_take (i := 3) (v := _) rfl (by kernel_rfl) (by kernel_rfl) (by kernel_rfl) (fun _ _ _ h => h) (Or.inl ⟨by rfl, ?y240⟩) ‹_› ?r240; (case y240 => (intro w hSw; (try dsimp only at hSw); go_simp <;> with_reducible rfl)); simp only [List.getElem_toArray, List.getElem_cons_succ, List.getElem_cons_zero, Act.put, List.setIfInBounds_toArray, List.set_cons_zero, List.set_cons_succ]))
      ((refine' wpAnyH_take (i := 5) (v := _) rfl (by kernel_rfl) (by kernel_rfl) (by kernel_rfl) (fun _ _ _ h => h) (Or.inl ⟨by rfl, ?y241⟩) ‹_› ?r241; (case y241 => (intro w hSw; obtain ⟨⟨hSw1⟩, ⟨hSw2⟩⟩ := hSw; go_simp <;> with_reducible rfl)); simp only [List.getElem_toArray, List.getElem_cons_succ, List.getElem_cons_zero, Act.put, List.setIfInBounds_toArray, List.set_cons_zero, List.set_cons_succ]))
      ((refine' wpAnyH_take (i := 6) (v := _) rfl (by kernel_rfl) (by kernel_rfl) (by kernel_rfl) (fun _ _ _ h => h) (Or.inl ⟨by rfl, ?y242⟩) ‹_› ?r242; (case y242 => (intro w hSw; (try dsimp only at hSw); go_simp <;> with_reducible rfl))); (refine' wpAnyH_take (i := 7) (v := _) rfl (by kernel_rfl) (by kernel_rfl) (by kernel_rfl) (fun _ _ _ h => h) (Or.inl ⟨by rfl, ?y243⟩) ‹_› ?r243; (case y243 => (intro w hSw; (try dsimp only at hSw); go_simp <;> with_reducible rfl)); simp only [List.getElem_toArray, List.getElem_cons_succ, List.getElem_cons_zero, Act.put, List.setIfInBounds_toArray, List.set_cons_zero, List.set_cons_succ]))
      ((refine' wpAnyH_take (i := 8) (v := _) rfl (by kernel_rfl) (by kernel_rfl) (by kernel_rfl) (fun _ _ _ h => h) (Or.inl ⟨by rfl, ?y244⟩) ‹_› ?r244; (case y244 => (intro w hSw; obtain ⟨⟨hSw1⟩, ⟨hSw2⟩⟩ := hSw; go_simp <;> with_reducible rfl)); simp only [List.getElem_toArray, List.getElem_cons_succ, List.getElem_cons_zero, Act.put, List.setIfInBounds_toArray, List.set_cons_zero, List.set_cons_succ]))
      refine wpAnyH_ready (rs := [4]) (by kernel_rfl) (by simp) ?_
      refine AllReadyH.cons rfl (fun K hK => ?_) AllReadyH.nil
      rw [if_pos (by rfl)]
      go_simp
      refine hK.out _ _ ⟨box qb, box q4⟩ (fun hHeld2 => ?_)
      clear hK K
      try simp only [List.getElem_toArray, List.getElem_cons_succ, List.getElem_cons_zero, Act.put, List.setIfInBounds_toArray, List.set_cons_zero, List.set_cons_succ]
      ((refine' wpAnyH_take (i := 9) (v := _) rfl (by kernel_rfl) (by kernel_rfl) (by kernel_rfl) (fun _ _ _ h => h) (Or.inl ⟨by rfl, ?y245⟩) ‹_› ?r245; (case y245 => (intro w hSw; (try dsimp only at hSw); go_simp <;> with_reducible rfl))); (refine' wpAnyH_take (i := 10) (v := _) rfl (by kernel_rfl) (by kernel_rfl) (by kernel_rfl) (fun _ _ _ h => h) (Or.inl ⟨by rfl, ?y246⟩) ‹_› ?r246; (case y246 => (intro w hSw; (try dsimp only at hSw); go_simp <;> with_reducible rfl))); (refine' wpAnyH_take (i := 11) (v := _) rfl (by kernel_rfl) (by kernel_rfl) (by kernel_rfl) (fun _ _ _ h => h) (Or.inl ⟨by rfl, ?y247⟩) ‹_› ?r247; (case y247 => (intro w hSw; (try dsimp only at hSw); go_simp <;> with_reducible rfl)); simp only [List.getElem_toArray, List.getElem_cons_succ, List.getElem_cons_zero, Act.put, List.setIfInBounds_toArray, List.set_cons_zero, List.set_cons_succ]))
      refine wpAnyH_ready (rs := [12]) (by kernel_rfl) (by simp) ?_
      refine AllReadyH.cons rfl (fun K hK => ?_) AllReadyH.nil
      rw [if_pos (by rfl)]
      go_simp
      refine hK.out _ _ ⟨box Hg5.out.1, box Hg5.out.2⟩ (fun _ => ?_)
      clear hK K
      try simp only [List.getElem_toArray, List.getElem_cons_succ, List.getElem_cons_zero, Act.put, List.setIfInBounds_toArray, List.set_cons_zero, List.set_cons_succ]
      refine wpAnyH_done (by kernel_rfl) ?_ _
      go_wp2_with fail
      go_ret
      exact ⟨_, _, by rw [hfin]; rfl, by rw [hfin]; exact HS6.out, (SegStep.of_calm HC0.out).trans HT6.out⟩
    ·go_wp2_with fail
     go_ret
     have hr : cutD D R j = (c4', D4, R) := by
      rw [Hr0.out]
      have h := HA1.out
      rw [if_pos x1.out] at h
      rw [h, if_pos x1.out]
     exact ⟨F4, _, by rw [hr]; rfl, by rw [hr]; exact HS4.out, (SegStep.of_calm HC0.out).trans HT4.out⟩
end
end Go.Proofs.YtjpokaifbnkmhaaGreatDoor.sg
