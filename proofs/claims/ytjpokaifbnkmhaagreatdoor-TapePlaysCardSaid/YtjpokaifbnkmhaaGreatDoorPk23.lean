/- Lemmas for this claim. -/
import Derived.Deep.RegionWith
import Derived.Test.YtjpokaifbnkmhaaGreatDoorPk22
set_option maxRecDepth 100000
namespace Go.Proofs.YtjpokaifbnkmhaaGreatDoor.sg
open Go.ChangeShapes Go.WideShapes Go.ChangeAt Go.RowKit
open dk
section
variable {W w w' : World} {r p n : Nat} {R R' R1 : RowS} {v v' v1 : Value} {D D' : DiskS} {F F' : Nat → Prop}
theorem SegAt.places {w1 : World} (h : SegAt W w r p n D R F v) (hc : Calm w w1) (hrow : w1.ownsRow 0 3 1 v1 R1.cnt (intN R1.places)) (hg : ∀ g, v1.ownBlock = some g → v.ownBlock = some g ∨ w.heap.size ≤ g) (ok : RowOk R1) (he : (rowCells p R v).setIfInBounds 3 v1 = rowCells p R1 v1) :
  SegAt W (w1.setCell ⟨r, 3, none⟩ v1) r p n D R1 F v1 ∧ SegStep w r F v (w1.setCell ⟨r, 3, none⟩ v1) F v1 := by
 have h1 := h.drew hc
 have hk : Keeps (rfoot r v) w (w1.setCell ⟨r, 3, none⟩ v1) := (Keeps.of_calm hc).setCell (p := ⟨r, 3, none⟩) (.inl (.inl rfl)) _
 have hst : SegStep w r F v (w1.setCell ⟨r, 3, none⟩ v1) F v1 := ⟨hk.mono (fun _ _ hb => .inr hb), fun _ hb => .inl hb, hg⟩
 have hne : v1.ownBlock ≠ some r := fun e => by
  obtain ⟨cur, hc⟩ := own_row hrow e
  rw [h1.row.at_] at hc; simp only [Option.some.injEq, Obj.cells.injEq] at hc; exact absurd hc.2.1 (by decide)
 refine ⟨h.next (h.disk.keep hk (fun b hb hx => ?_)) ⟨?_, ?_, ok⟩ hst, hst⟩
 ·rcases hx with rfl | hx
  ·exact row_apart h.disk h.row.at_ hb
  ·exact places_apart h.disk h.row hx hb
 ·rw [heap_set h1.row.at_, he]
 ·exact row_same hrow (fun g e => heap_set_other (fun e2 => hne (by rw [← e2]; exact e)) 3 v1)
def RowS.rest0 (R : RowS) : RowS := { R with start := R.start + R.size, cnt := R.cnt - 1 }
theorem RowOk.rest0 (h : RowOk R) (h2 : 2 ≤ R.cnt) : RowOk R.rest0 := by
 have := h.rest h2
 exact ⟨this.size, this.head, this.none, this.fin, this.least, this.mod, h.synced⟩
def DropDone (W : World) (r p n : Nat) (D : DiskS) (R : RowS) (F : Nat → Prop) (v : Value) (w : World) (e : Ending) (w' : World) : Prop :=
 ∃ F' v', e = .returned (.tuple #[.int .i64 (dropD D R).1.1, .int .i64 (dropD D R).1.2]) ∧ SegAt W w' r p n (dropD D R).2.1 (dropD D R).2.2 F' v' ∧ SegStep w r F v w' F' v'
theorem dropped {D : DiskS} (h : SegAt W w r p n D R F v) (c : Int) (he : dropD D R = ((0, c), D, R)) : DropDone W r p n D R F v w (.returned (.tuple #[.int .i64 0, .int .i64 c])) w :=
 ⟨F, v, by rw [he], by rw [he]; exact h, SegStep.refl⟩
set_option maxHeartbeats 8000000 in
theorem Drop_any (w : World) (h : SegAt W w r p n D R F v) (hn : n ≤ 1000000) :
  Calls Tryz.prog 81 #[ptrTo r] w (DropDone W r p n D R F v w) := by
 have H := box h
 have HDD := box (Down_any w h.disk.lies)
 have hle := h.row.ok.le
 have hfew := h.row.ok.few
 have hz := h.row.ok.size
 have hFw := box h.disk.foot_lt
 obtain ⟨c0, c1, c2, c3, c4, c5⟩ := h.row.cells
 have hlt := heap_lt h.row.at_
 obtain ⟨a, cap, rfl, hcap, hmx, hel⟩ := h.row.uni
 have Hel := box hel
 clear h hmx hel
 by_cases hd : D.down = true
 ·have hr : dropD D R = ((0, 8), D, R) := by unfold dropD; rw [if_pos hd]
  have Hr := box hr
  rw [hd] at HDD
  clear hd hr
  go_enter Tryz.func81, Tryz.ntmps81
  go_wp2_with fail
  refine HDD.out.mono ?_
  rintro e w1 ⟨rfl, rfl⟩
  go_wp2_with fail
  go_ret2
  exact dropped H.out 8 Hr.out
 have hdf : D.down = false := by simpa using hd
 rw [hdf] at HDD
 by_cases h2 : R.cnt < 2
 ·have hr : dropD D R = ((0, 9), D, R) := by unfold dropD; rw [if_neg hd, if_pos h2]
  have Hr := box hr
  have t1 : decide (R.cnt < 2) = true := decide_eq_true h2
  have t2 : decide ((R.cnt : Int) < 2) = true := decide_eq_true (by omega)
  clear hd hr hdf h2
  go_enter Tryz.func81, Tryz.ntmps81
  go_wp2_with fail
  refine HDD.out.mono ?_
  rintro e w1 ⟨rfl, rfl⟩
  go_wp2_with fail
  go_ret2
  exact dropped H.out 9 Hr.out
 have hr0 : dropD D R = if (D.delete [nameB R.head R.start]).1 ≠ 0 then ((0, (D.delete [nameB R.head R.start]).1), (D.delete [nameB R.head R.start]).2, R) else ((((R.start + R.size : Nat) : Int), 0), (D.delete [nameB R.head R.start]).2, R.rest) := by
  unfold dropD; rw [if_neg hd, if_neg h2]
 have Hr0 := box hr0
 obtain ⟨b, rfl, hb, hc⟩ := Hel.out 0 (by omega)
 rw [Nat.zero_mul, Nat.add_zero] at hc
 have hname := box (fun (W' : World) (hc : Calm w W') => name_any R.start W' (H.out.row.calm hc) hle.2.1 (tab_calm H.out.tab' hc))
 have hdel := box (fun (W5 : World) (hc : Calm w W5) => Delete_ok (.slice (some ⟨W5.heap.size, 0, none⟩) 1 1) [nameB R.head R.start] (W5.alloc (.cells #[.string (nameB R.head R.start)] 9)) (H.out.disk.calm (hc.alloc _)) hn (StrsAt.one (cell_of (heap_new _ _) 0)) (fun a n c e _ hf => by cases e; have h1 : W5.heap.size < w.heap.size := hFw.out _ hf; have := hc.size; omega) (by simp))
 have hS := box (fun (W' : World) (h : RowAt W' r p R (.slice (some ⟨b, 0, none⟩) R.cnt cap)) => (show W'.cell? ⟨r, 0, none⟩ = some (ptrTo p) ∧ W'.cell? ⟨r, 3, none⟩ = some (.slice (some ⟨b, 0, none⟩) R.cnt cap) ∧ W'.cell? ⟨b, 0, none⟩ = some (.int .i64 (R.start : Int)) from by
  obtain ⟨a, cp, e, _, _, hel⟩ := h.uni
  cases e
  obtain ⟨g, e, _, hc⟩ := hel 0 (by omega)
  cases e
  rw [Nat.zero_mul, Nat.add_zero] at hc
  exact ⟨h.cells.1, h.cells.2.2.2.1, hc⟩))
 have HD := box (fun (W' : World) (hc : Calm w W') => H.out.row.calm hc)
 have t1 : decide (R.cnt < 2) = false := decide_eq_false h2
 have t2 : decide ((R.cnt : Int) < 2) = false := decide_eq_false (by omega)
 have h1 : 0 < R.cnt := by omega
 have h2' : 2 ≤ R.cnt := by omega
 clear hd hdf hr0 h2
 go_enter Tryz.func81, Tryz.ntmps81
 go_wp2_with fail
 refine HDD.out.mono ?_
 rintro e w1 ⟨rfl, rfl⟩
 go_upto_region 7 with fail
 go_region_held3 (fun w' => w'.cell? ⟨r, 0, none⟩ = some (ptrTo p) ∧ w'.cell? ⟨r, 3, none⟩ = some (.slice (some ⟨b, 0, none⟩) R.cnt cap) ∧ w'.cell? ⟨b, 0, none⟩ = some (.int .i64 (R.start : Int))) (first | go_keep | exact hS.out _ ((HD.out _ (by (repeat' (first | (with_reducible exact Calm.refl _) | (with_reducible assumption) | (with_reducible refine Calm.drew ?_) | (with_reducible refine Calm.alloc ?_ _) | (with_reducible refine Calm.trans ?_ (by assumption)))))).step (H.out.disk.calm (by (repeat' (first | (with_reducible exact Calm.refl _) | (with_reducible assumption) | (with_reducible refine Calm.drew ?_) | (with_reducible refine Calm.alloc ?_ _) | (with_reducible refine Calm.trans ?_ (by assumption)))))) hs6) | exact hS.out _ (HD.out _ (by (repeat' (first | (with_reducible exact Calm.refl _) | (with_reducible assumption) | (with_reducible refine Calm.drew ?_) | (with_reducible refine Calm.alloc ?_ _) | (with_reducible refine Calm.trans ?_ (by assumption))))))) (first
  | (go_at_call 112; refine (hname.out _ (by (repeat' (first | (with_reducible exact Calm.refl _) | (with_reducible assumption) | (with_reducible refine Calm.drew ?_) | (with_reducible refine Calm.alloc ?_ _) | (with_reducible refine Calm.trans ?_ (by assumption)))))).mono ?_; rintro e w5 ⟨rfl, hc5⟩)
  | (go_at_call 55; refine (hdel.out _ (by (repeat' (first | (with_reducible exact Calm.refl _) | (with_reducible assumption) | (with_reducible refine Calm.drew ?_) | (with_reducible refine Calm.alloc ?_ _) | (with_reducible refine Calm.trans ?_ (by assumption)))))).mono ?_; rintro e w6 ⟨rfl, F6, hd6, hs6⟩))
 have HC5 := box (show Calm w (w5.alloc (.cells #[.string (nameB R.head R.start)] 9)) by (repeat' (first | (with_reducible exact Calm.refl _) | (with_reducible assumption) | (with_reducible refine Calm.drew ?_) | (with_reducible refine Calm.alloc ?_ _) | (with_reducible refine Calm.trans ?_ (by assumption)))))
 have hS6 := (H.out.drew HC5.out).disked hd6 hs6
 obtain ⟨⟨c6, D6⟩, hr6⟩ : ∃ x, D.delete [nameB R.head R.start] = x := ⟨_, rfl⟩
 have hr1 := Hr0.out
 rw [hr6] at hS6 hr1 ⊢
 simp only at hS6 hr1 ⊢
 have Hr1 := box hr1
 have HS6 := box hS6.1
 have HT6 := box (SegStep.trans (SegStep.of_calm HC5.out) hS6.2)
 clear hS6 hd6 hs6 hr6 hr1 hc5 hname hdel c0 c1 c2 c3 c4 c5 hlt hc
 rcases err_cases c6 with rfl | ⟨x1, x2, x3⟩
 ·have d3 := HS6.out.row.cells.2.2.2.1
  have g3 := free_of HS6.out.row.at_ 3
  have dlt := heap_lt HS6.out.row.at_
  have hclone := box (Tryz.slices_Clone_int b 1 (R.cnt - 1) (cap - 1) ((plc (R.start + R.size) R.size (R.cnt - 1)).map fun n : Nat => (n : Int)) w6 (by rw [List.length_map, plc_length]; exact Nat.le_refl _) (by omega) (fun j hj => by
   rw [List.length_map, plc_length] at hj
   obtain ⟨a', cp, e, _, _, hel⟩ := HS6.out.row.uni
   cases e
   obtain ⟨g, e, _, hc⟩ := hel (j + 1) (by omega)
   cases e
   rw [Nat.add_comm 1 j, hc]
   rw [List.getD_eq_getElem?_getD, List.getElem?_map, List.getElem?_eq_getElem (by rw [plc_length]; exact hj), plc_get]
   simp only [Option.map_some, Option.getD_some]
   rw [Nat.succ_mul]
   congr 2
   omega))
  go_wp2_with fail
  refine hclone.out.mono ?_
  rintro e w7 ⟨v7, rfl, hrow7, _, hc7⟩
  have hrow8 : w7.ownsRow w6.heap.size 3 1 v7 R.rest0.cnt (intN R.rest0.places) := by
   rw [List.take_of_length_le (by rw [List.length_map, plc_length]; exact Nat.le_refl _), List.map_map] at hrow7
   exact hrow7
  obtain ⟨a7, cp7, hv7, _⟩ := row_cap hrow8
  subst hv7
  have hS7 := HS6.out.places hc7 (row_zero hrow8) (fun g hg => .inr (hrow8.lt g hg).1) (HS6.out.row.ok.rest0 h2') rfl
  have e3 := (HS6.out.row.calm hc7).cells.2.2.2.1
  have f3 := free_of (HS6.out.row.calm hc7).at_ 3
  have elt := heap_lt (HS6.out.row.calm hc7).at_
  have HS7 := box hS7.1
  have HT7 := box (HT6.out.trans hS7.2)
  clear hS7 hrow7 hrow8 hc7 d3 g3 dlt hclone
  go_upto_region 11 with fail
  obtain ⟨w8, hw8⟩ : ∃ x, w7.setCell ⟨r, 3, none⟩ (.slice a7 R.rest0.cnt cp7) = x := ⟨_, rfl⟩
  rw [hw8] at HS7 HT7
  rw [hw8]
  clear hw8 e3 f3 elt
  have e5 : w8.cell? ⟨r, 5, none⟩ = some (.int .i64 R.synced) := HS7.out.row.cells.2.2.2.2.2
  have f5 := free_of HS7.out.row.at_ 5
  have hmx : max (R.synced : Int) (R.rest0.start : Int) = (R.rest.synced : Int) := by
   show _ = ((max R.synced (R.start + R.size) : Nat) : Int)
   have : R.rest0.start = R.start + R.size := rfl
   omega
  have elt := heap_lt HS7.out.row.at_
  have hbeg := box (fun (W' : World) (hc : Calm w8 W') => Begin_any W' (HS7.out.row.calm hc))
  go_region_with ((go_at_call 80; refine (hbeg.out _ (by (repeat' (first | (with_reducible exact Calm.refl _) | (with_reducible assumption) | (with_reducible refine Calm.drew ?_) | (with_reducible refine Calm.alloc ?_ _) | (with_reducible refine Calm.trans ?_ (by assumption)))))).mono ?_; rintro e w9 ⟨rfl, rfl⟩))
  all_goals
   have hS9 := HS7.out.set (R' := R.rest) 5 (.int .i64 (R.rest.synced : Int)) rfl ⟨rfl, rfl⟩ (H.out.row.ok.rest h2')
   have HS9 := box (hS9.1.drew ((Calm.refl _).drew))
   have HT9 := box ((HT7.out.trans hS9.2).calm ((Calm.refl _).drew))
   clear hS9 e5 f5 elt
   obtain ⟨w9, hw9⟩ : ∃ x, (w8.setCell ⟨r, 5, none⟩ (.int .i64 (R.rest.synced : Int))).drew = x := ⟨_, rfl⟩
   rw [hw9] at HS9 HT9 ⊢
   clear hw9
   go_wp2_with fail
   refine (Begin_any _ HS9.out.row).mono ?_
   rintro e w10 ⟨rfl, rfl⟩
   go_wp2_with fail
   go_ret2
   have hr : dropD D R = ((((R.start + R.size : Nat) : Int), 0), D6, R.rest) := by rw [Hr1.out]; simp
   exact ⟨F6, _, by rw [hr]; rfl, by rw [hr]; exact HS9.out, HT9.out⟩
 ·go_wp2_with fail
  go_ret2
  have hr : dropD D R = ((0, c6), D6, R) := by rw [Hr1.out, if_pos x1.out]
  exact ⟨F6, _, by rw [hr]; rfl, by rw [hr]; exact HS6.out, HT6.out⟩
end
theorem findIdx_snoc {α : Type} (q : α → Bool) (L : List α) (k : Nat) (hk : k < L.length) (h : (L.take k).findIdx? q = none) :
  (q L[k] = true → L.findIdx? q = some k) ∧ (q L[k] = false → (L.take (k + 1)).findIdx? q = none) := by
 rw [List.findIdx?_eq_none_iff] at h
 constructor
 ·intro he
  rw [List.findIdx?_eq_some_iff_getElem]
  refine ⟨hk, he, fun j hj => ?_⟩
  have := h L[j] (List.mem_take_iff_getElem.2 ⟨j, by omega, rfl⟩)
  simpa using this
 ·intro he
  rw [List.findIdx?_eq_none_iff]
  intro x hx
  rw [List.take_succ_eq_append_getElem hk] at hx
  rcases List.mem_append.1 hx with hx | hx
  ·exact h x hx
  ·rw [List.mem_singleton] at hx; subst hx; exact he
def cutQ (R : RowS) (k : Int) (p : Nat) : Bool := decide (k ≤ (p : Int)) && decide (R.start < p)
def idxP (R : RowS) (k : Int) : Int := match R.places.findIdx? (cutQ R k) with | some i => (i : Int) | none => -1
theorem keepN_eq (R : RowS) (k : Int) : R.keepN k = match R.places.findIdx? (cutQ R k) with | some i => i | none => R.cnt := rfl
theorem keepN_cases (R : RowS) (k : Int) : (idxP R k = -1 ∧ R.keepN k = R.cnt) ∨ (idxP R k = (R.keepN k : Int) ∧ R.keepN k < R.cnt ∧ 1 ≤ R.keepN k ∧ k ≤ ((R.start + R.keepN k * R.size : Nat) : Int)) := by
 unfold idxP
 rw [keepN_eq]
 cases h : R.places.findIdx? (cutQ R k) with
 | none => exact .inl ⟨rfl, rfl⟩
 | some i =>
  rw [List.findIdx?_eq_some_iff_getElem] at h
  obtain ⟨hi, hq, _⟩ := h
  rw [R.length] at hi
  have hg : R.places[i]'(by rw [R.length]; exact hi) = R.start + i * R.size := plc_get _ _ _ _
  rw [hg] at hq
  unfold cutQ at hq
  rw [Bool.and_eq_true, decide_eq_true_eq, decide_eq_true_eq] at hq
  refine .inr ⟨rfl, hi, ?_, hq.1⟩
  rcases Nat.eq_zero_or_pos i with rfl | h0
  ·simp at hq
  ·exact h0
section
variable {W w w' : World} {r p n : Nat} {R R' R1 : RowS} {v v' v1 : Value} {D D' : DiskS} {F F' : Nat → Prop}
theorem Cut1_any (x : Nat) (ba br : Nat) (k : Int) (w : World) (h : RowAt w r p R v) (ha : w.cell? ⟨ba, 0, none⟩ = some (.int .i64 k)) (hr : w.cell? ⟨br, 0, none⟩ = some (ptrTo r)) :
  Calls Tryz.prog 123 #[.int .i64 (x : Int), ptrTo ba, ptrTo br] w fun e w' => e = .returned (.bool (cutQ R k x)) ∧ w = w' := by
 have HB := box (Begin_any w h)
 unfold cutQ
 clear h
 by_cases h1 : k ≤ (x : Int)
 ·have t1 : decide (k ≤ (x : Int)) = true := decide_eq_true h1
  rw [t1]
  clear h1
  go_enter Tryz.func123, Tryz.ntmps123
  go_wp2_with fail
  refine HB.out.mono ?_
  rintro e w1 ⟨rfl, rfl⟩
  go_wp2_with fail
  go_ret
  exact ⟨ret_bool (by simp), rfl⟩
 ·have t1 : decide (k ≤ (x : Int)) = false := decide_eq_false h1
  rw [t1]
  clear h1
  go_enter Tryz.func123, Tryz.ntmps123
  go_wp2_with fail
  go_ret
  exact ⟨rfl, rfl⟩
set_option maxHeartbeats 2000000 in
theorem IndexFunc_any (ba br : Nat) (k : Int) (w : World) (h : RowAt w r p R v) (ha : w.cell? ⟨ba, 0, none⟩ = some (.int .i64 k)) (hr : w.cell? ⟨br, 0, none⟩ = some (ptrTo r)) :
  Calls Tryz.prog 122 #[v, .func (.func 123) #[] #[ptrTo ba, ptrTo br]] w fun e w' => e = .returned (.int .i64 (idxP R k)) ∧ w = w' := by
 obtain ⟨a, cap, rfl, hcap, hmx, hel⟩ := h.uni
 have Hel := box hel
 have hen := Go.Proofs.enters_of Tryz.func123 (by kernel_rfl) rfl
 have HC := box (fun x => Cut1_any x ba br k w h ha hr)
 have hfew := h.ok.few
 clear h ha hr hel hmx
 go_enter Tryz.func122, Tryz.ntmps122
 go_wp2_with fail
 go_loopw [8] (fun i wr => ∃ j : Nat, j ≤ R.cnt ∧ i = .int .i64 j ∧ (R.places.take j).findIdx? (cutQ R k) = none ∧ w = wr) (fun i _ => R.cnt - (intOf i).toNat)
 case atStart => exact ⟨0, Nat.zero_le _, rfl, rfl, rfl⟩
 case round =>
  obtain ⟨j, hj, rfl, hno, rfl⟩ := hrel
  have Hno := box hno
  clear hno
  by_cases hlt : j < R.cnt
  ·obtain ⟨b, rfl, hb, hc⟩ := Hel.out j hlt
   have hs := box (findIdx_snoc (cutQ R k) R.places j (by rw [R.length]; exact hlt) Hno.out)
   have hg : R.places[j]'(by rw [R.length]; exact hlt) = R.start + j * R.size := plc_get _ _ _ _
   rw [hg] at hs
   obtain ⟨q, hq⟩ : ∃ q, R.start + j * R.size = q := ⟨_, rfl⟩
   rw [hq] at hs hc
   clear hq hg
   cases hv : cutQ R k q
   ·have hnext := box (hs.out.2 hv)
    have hcall := box (HC.out q)
    rw [hv] at hcall
    clear hv hs
    go_wp2_with fail
    refine hcall.out.mono ?_
    rintro e w1 ⟨rfl, rfl⟩
    go_wp2_with fail
    go_roundw
    case rel => exact ⟨j + 1, by omega, by go_num, hnext.out, by first | rfl | trivial⟩
    case measure => simp [intOf]; omega
   ·have hres := box (show idxP R k = j by unfold idxP; rw [hs.out.1 hv])
    have hcall := box (HC.out q)
    rw [hv] at hcall
    clear hv hs
    go_wp2_with fail
    refine hcall.out.mono ?_
    rintro e w1 ⟨rfl, rfl⟩
    go_wp2_with fail
    go_ret
    exact ⟨ret_int (by rw [hres.out]), rfl⟩
  ·obtain rfl : j = R.cnt := by omega
   have hres := box (show idxP R k = -1 by
    have h1 := Hno.out
    rw [← R.length, List.take_length] at h1
    unfold idxP; rw [h1])
   go_wp2_with fail
   go_ret
   exact ⟨ret_int (by rw [hres.out]), rfl⟩
theorem SegStep.same (s : SegStep w r F v w' F' v') {b : Nat} {o : Obj} (hb : w.heap[b]? = some o) (hF : ¬ F b) (hr : b ≠ r) (hv : v.ownBlock ≠ some b) : w'.heap[b]? = some o :=
 (s.keeps.block b (heap_lt hb) (fun h => h.elim hF (fun h => h.elim hr hv))).trans hb
end
end Go.Proofs.YtjpokaifbnkmhaaGreatDoor.sg
