/- Lemmas for this claim. -/
import Derived.Stop.LaidErr
import Derived.Test.YtjpokaifbnkmhaaGreatDoorPk36
set_option maxRecDepth 100000
namespace Go.Proofs.YtjpokaifbnkmhaaGreatDoor.tp
open Go.ChangeShapes Go.WideShapes Go.ChangeAt Go.RowKit Go.ChangeMaps Go.MapKept
open rc oc cr dk sg
theorem id_facts {e : Nat} {m : MsgS} (h : okM m) (he : e % 1024 = 0 ∨ e % 1024 + 3 ≤ 1024) : e ≤ idP e m ∧ idP e m + (recB m).size = e + costP e m ∧ idP e m / 1024 = (idP e m + (recB m).size - 1) / 1024 ∧ 7 ≤ (recB m).size ∧ (recB m).size ≤ 321 := by
 have hb := recB_bounds h.1 h.2
 have hl := laid_len (m := m) he
 have hc : costP e m = (flat (laidP e m)).length := by unfold costP; rw [if_pos h]
 rw [hc, hl]
 unfold idP
 by_cases hg : goesIn e (recB m).size
 ·rw [if_pos hg, if_pos hg]
  unfold goesIn roomAt at hg
  refine ⟨Nat.le_refl _, rfl, ?_, hb.1, hb.2⟩
  omega
 ·rw [if_neg hg, if_neg hg]
  have := behind_fill e
  unfold roomAt at this ⊢
  refine ⟨by omega, by omega, by omega, hb.1, hb.2⟩
theorem fair_of {w : World} {m : MsgS} {kv : Value} (hk : StrsAt w kv m.keys) (hz : MsgZ m) (hs : Small m) : Fair w m kv :=
 ⟨hk, hz.2.2.2.2.1, by have := hs.2.2.2.1; omega, by have := hs.1; omega⟩
abbrev MsgCells (w : World) (b : Nat) (m : MsgS) (kv : Value) : Prop := w.cell? ⟨b, 0, none⟩ = some (.int .i64 m.kind) ∧ w.cell? ⟨b, 1, none⟩ = some (.int .i64 m.queue) ∧ w.cell? ⟨b, 2, none⟩ = some (.int .i64 m.due) ∧ w.cell? ⟨b, 3, none⟩ = some (.int .i64 m.retry) ∧ w.cell? ⟨b, 4, none⟩ = some (.int .i64 m.ref) ∧ w.cell? ⟨b, 5, none⟩ = some (.int .i64 m.born) ∧ w.cell? ⟨b, 6, none⟩ = some (.string m.topic) ∧ w.cell? ⟨b, 7, none⟩ = some (.string m.tag) ∧ w.cell? ⟨b, 8, none⟩ = some (.string m.body) ∧ w.cell? ⟨b, 9, none⟩ = some kv
section
variable {W w w' : World} {t p n r sb mb c m k : Nat} {D D' E : DiskS} {R R' : RowS} {L : List (Nat × MsgS)} {last : Int} {F F' G G' : Nat → Prop} {v v' iv : Value} {S S' : TS}
theorem TpIn.keep {B : Nat → Prop} (h : TpIn W w t p n r sb mb D R L last F v iv) (hK : Keeps B w w') (hB : ∀ b, tfoot t r sb mb F v iv b → ¬ B b) (hc : Calm W w') : TpIn W w' t p n r sb mb D R L last F v iv :=
  ⟨⟨h.seg.disk.keep hK (fun b hb e => hB b (.inl hb) e), ⟨(hK.block r (heap_lt h.seg.row.at_) (fun e => hB r (.inr (.inl (.inl rfl))) e)).trans h.seg.row.at_, row_same h.seg.row.row (fun g hg' => hK.block g (h.seg.row.row.lt g hg').2 (fun e => hB g (.inr (.inl (.inr hg'))) e)), h.seg.row.ok⟩, h.seg.tab, hc, h.seg.fW, h.seg.rW, h.seg.vW⟩,
   (hK.block t (heap_lt h.obj) (hB t (.inr (.inr (.inl rfl))))).trans h.obj,
   (hK.block sb (heap_lt h.sums) (hB sb (.inr (.inr (.inr (.inl rfl)))))).trans h.sums,
   row_same h.ids (fun g hg => hK.block g (h.ids.lt g hg).2 (hB g (.inr (.inr (.inr (.inr (.inr hg))))))),
   h.sizes.same (hK.block mb h.sizes.lt (hB mb (.inr (.inr (.inr (.inr (.inl rfl))))))), h.apart, h.mF, h.tW, h.sW, h.mW⟩
theorem Tp.keep {B : Nat → Prop} (h : Tp W t p n S G w) (hK : Keeps B w w') (hB : ∀ b, G b → ¬ B b) (hc : Calm W w') : Tp W t p n S G w' := by
  obtain ⟨r, sb, mb, F, v, iv, h1, h2⟩ := h.at_
  exact ⟨⟨r, sb, mb, F, v, iv, h1.keep hK (fun b hb => hB b ((h2 b).2 hb)) hc, h2⟩, h.holds, h.fit, h.size, h.head, h.born⟩
theorem step_not (h : Step G w G' w') {b : Nat} (hb : b < w.heap.size) (hn : ¬ G b) : ¬ G' b := fun e => by
  rcases h.foot b e with h1 | h1
  · exact hn h1
  · omega
abbrev Rq := Nat × MsgS × Value
def encR (x : Rq) : Value × Value := (.int .i64 (x.1 : Int), .agg (msgA x.2.1 x.2.2))
def numR (x : Rq) : Nat × MsgS := (x.1, x.2.1)
variable {mm : Nat} {A : List Rq}
end
theorem ints_same {w w' : World} {v : Value} {l : List Int} (h : IntsAt w v l) (hs : ∀ b, v.ownBlock = some b → w'.heap[b]? = w.heap[b]?) : IntsAt w' v l := by
 obtain ⟨a, cap, rfl, h2, h4⟩ := h
 refine ⟨a, cap, rfl, h2, fun k hk => ?_⟩
 obtain ⟨b, off, e, hb, hcell⟩ := h4 k hk
 subst e
 have hbb := hs b rfl
 have hb' : b < w'.heap.size := by
  have hx : w'.heap[b]? = some w.heap[b] := by rw [hbb]; exact Array.getElem?_eq_getElem hb
  exact (Array.getElem?_eq_some_iff.1 hx).1
 refine ⟨b, off, rfl, hb', ?_⟩
 rw [← hcell]
 unfold World.cell?
 rw [hbb]
theorem own_ints {w : World} {B : Nat} {v : Value} {l : List Nat} (h : w.ownsRow B 3 1 v l.length (intN l)) (hl : l.length ≤ 1000000) : IntsAt w v (l.map fun (x : Nat) => (x : Int)) := by
 rcases h.2 with ⟨rfl, hn⟩ | ⟨g, cap, cur, rfl, hb, hg, hnc, hcm, hcs, htake⟩
 ·have : l = [] := List.eq_nil_of_length_eq_zero hn
  subst this
  exact ⟨none, 0, rfl, ⟨Nat.zero_le _, Nat.zero_le _⟩, fun k hk => absurd hk (Nat.not_lt_zero _)⟩
 ·refine ⟨some ⟨g, 0, none⟩, cap, by rw [List.length_map], ⟨by rw [List.length_map]; simp only [maxLen]; omega, by rw [List.length_map]; exact hnc⟩, fun k hk => ⟨g, 0, rfl, heap_lt hg, ?_⟩⟩
  rw [List.length_map] at hk
  have := h.cells (g := g) rfl k (.int .i64 (l[k] : Int)) (by simp [intN, hk])
  rw [add_lit] at this
  rw [Nat.zero_add, this, List.getElem_map]
section
variable {W w w' : World} {t p n r sb mb c m k mm j : Nat} {D D' E : DiskS} {R R' : RowS} {L : List (Nat × MsgS)} {last : Int} {F F' G G' : Nat → Prop} {v v' iv : Value} {S S' : TS} {T A : List Rq} {I : List Int}
structure Dr (W : World) (t p mm j : Nat) (S : TS) (G : Nat → Prop) (T A : List Rq) (I : List Int) (iv : Value) (w : World) : Prop where
 tp : ∃ n, Tp W t p n S G w ∧ n ≤ 1000
 able : Able S.D 1048576 200000
 recs : S.recs = A.map numR
 sub : ∀ x ∈ A, x ∈ T
 start : S.R.start = 1024 * j
 fin : S.R.fin ≤ 52000
 synced : S.R.synced ≤ S.R.fin
 map : MapIs w mm (.int .i64) (T.map encR)
 mG : ¬ G mm
 ids : IntsAt w iv I
 idG : ∀ b, iv.ownBlock = some b → ¬ G b ∧ b < w.heap.size
 msgs : ∀ x ∈ T, StrsAt W x.2.2 x.2.1.keys ∧ x.2.1.keys.length ≤ 1000000
theorem Dr.others (h : Dr W t p mm j S G T A I iv w) (hS : Step G w G' w') : MapIs w' mm (.int .i64) (T.map encR) ∧ ¬ G' mm ∧ IntsAt w' iv I ∧ ∀ b, iv.ownBlock = some b → ¬ G' b ∧ b < w'.heap.size :=
 ⟨h.map.same (hS.keeps.block mm h.map.lt h.mG), step_not hS h.map.lt h.mG, ints_same h.ids (fun b hb => hS.keeps.block b (h.idG b hb).2 (h.idG b hb).1), fun b hb => ⟨step_not hS (h.idG b hb).2 (h.idG b hb).1, Nat.lt_of_lt_of_le (h.idG b hb).2 hS.keeps.size⟩⟩
theorem tail_slice (b off len cap : Nat) (h1 : 1 ≤ len) (hc : len ≤ cap) :
  ∃ a' : Addr, a'.block = b ∧ (∀ W : World, (Instr.slice 69 (.slice (some ⟨b, off, none⟩) len cap) (some (.int .i64 1)) none none).run Tryz.prog W = .ok (.slice (some a') (len - 1) (cap - 1)) W) ∧ (1 < cap → a' = ⟨b, off + 1, none⟩) := by
 have he : Tryz.prog.elem 69 = 3 := by kernel_rfl
 have hz : ∀ w : World, (Go.sizeOf 3).run Tryz.prog w = .ok 1 w := Tryz.sizeOf3
 by_cases h0 : cap = 1
 ·refine ⟨⟨b, off, none⟩, rfl, fun W => ?_, fun h => by omega⟩
  have := run_slice_l W 69 (some ⟨b, off, none⟩) len cap (by rw [he]; exact Tryz.underlying69) .i64 1 (by omega) (by omega)
  rw [he, hz] at this
  refine this.trans ?_
  simp [Result.andThen, sliced, Addr.add, h0]
 ·refine ⟨⟨b, off + 1, none⟩, rfl, fun W => ?_, fun _ => rfl⟩
  have := run_slice_l W 69 (some ⟨b, off, none⟩) len cap (by rw [he]; exact Tryz.underlying69) .i64 1 (by omega) (by omega)
  rw [he, hz] at this
  refine this.trans ?_
  simp [Result.andThen, sliced, Addr.add, h0]
theorem Dr.tail {i : Int} {b off cap : Nat} (h : Dr W t p mm j S G T A (i :: I) (.slice (some ⟨b, off, none⟩) (I.length + 1) cap) w) :
  ∃ a', (∀ W : World, (Instr.slice 69 (.slice (some ⟨b, off, none⟩) (I.length + 1) cap) (some (.int .i64 1)) none none).run Tryz.prog W = .ok (.slice (some a') I.length (cap - 1)) W) ∧ Dr W t p mm j S G T A I (.slice (some a') I.length (cap - 1)) w ∧ w.cell? ⟨b, off, none⟩ = some (.int .i64 i) ∧ b < w.heap.size := by
 obtain ⟨a, c, h1, ⟨h2, h3⟩, h4⟩ := h.ids
 simp only [List.length_cons, Value.slice.injEq] at h1
 obtain ⟨rfl, _, rfl⟩ := h1
 simp only [List.length_cons] at h2 h3
 obtain ⟨a', e1, e2, e3⟩ := tail_slice b off (I.length + 1) cap (by omega) h3
 obtain ⟨b0, off0, q1, q2, q3⟩ := h4 0 (by simp)
 simp only [Option.some.injEq, Addr.mk.injEq] at q1
 obtain ⟨rfl, rfl, _⟩ := q1
 refine ⟨a', e2, ⟨h.tp, h.able, h.recs, h.sub, h.start, h.fin, h.synced, h.map, h.mG, ⟨some a', cap - 1, rfl, ⟨by omega, by omega⟩, fun k hk => ?_⟩, fun g hg => ?_, h.msgs⟩, by simpa using q3, q2⟩
 ·obtain ⟨b1, off1, r1, r2, r3⟩ := h4 (k + 1) (by simp; omega)
  simp only [Option.some.injEq, Addr.mk.injEq] at r1
  obtain ⟨rfl, rfl, _⟩ := r1
  refine ⟨b, off + 1, by rw [e3 (by omega)], r2, ?_⟩
  rw [show off + 1 + k = off + (k + 1) by omega, r3]
  rfl
 ·have : g = b := by
   have h5 : some a'.block = some g := hg
   rw [e1] at h5
   exact (Option.some.inj h5).symm
  subst this
  exact h.idG g rfl
theorem Dr.listed (h : Dr W t p mm j S G T A I iv w) : ((fromL S.recs 0).map (·.1)).map (fun (x : Nat) => (x : Int)) = A.map fun x => (x.1 : Int) := by
 have h1 : fromL S.recs 0 = S.recs := List.filter_eq_self.2 (fun x _ => decide_eq_true (Int.natCast_nonneg _))
 rw [h1, h.recs, List.map_map, List.map_map]; rfl
theorem Dr.cell {da : Option Addr} {dn dc : Nat} (h : Dr W t p mm j S G T A (A.map fun x => (x.1 : Int)) (.slice da dn dc) w) {i : Nat} (hi : i < A.length) : ∃ b off, da = some ⟨b, off, none⟩ ∧ b < w.heap.size ∧ w.cell? ⟨b, off + i, none⟩ = some (.int .i64 (A[i].1 : Int)) := by
 obtain ⟨a, c, h1, _, h4⟩ := h.ids
 simp only [Value.slice.injEq] at h1
 obtain ⟨rfl, _, rfl⟩ := h1
 obtain ⟨b, off, q1, q2, q3⟩ := h4 i (by rw [List.length_map]; exact hi)
 rw [List.getElem_map] at q3
 exact ⟨b, off, q1, q2, q3⟩
end
section
variable {W w w' : World} {g : Nat} {B : ByteArray}
set_option maxHeartbeats 8000000 in
theorem rCost_any (g : Nat) (B : ByteArray) (v1 v2 v3 : Value) (m : MsgS) (kv : Value) (w : World) (hg : w.heap[g]? = some (.cells #[.string B, v1, v2, v3] 85 (0, 0))) (hk : StrsAt w kv m.keys) (hs : ∀ s ∈ m.keys, s.size ≤ maxLen) (hz : m.topic.size ≤ maxLen ∧ m.tag.size ≤ maxLen ∧ m.body.size ≤ maxLen) (hB : B.size ≤ 1000000) (he : B.size % 1024 = 0 ∨ B.size % 1024 + 3 ≤ 1024) :
  Calls Tryz.prog 39 #[ptrTo g, .agg (msgA m kv)] w fun e w' => e = .returned (.int .i64 (costP B.size m : Int)) ∧ Calm w w' := by
 obtain ⟨ka, kcap, hkv, _⟩ := hk.uni
 subst hkv
 obtain ⟨W1, hW1⟩ : ∃ W1, w.alloc (.cells (msgA m (.slice ka m.keys.length kcap)) 62) = W1 := ⟨_, rfl⟩
 have J1 := box (show W1.heap[w.heap.size]? = some (.cells (msgA m (.slice ka m.keys.length kcap)) 62 (0, 0)) by rw [← hW1]; exact heap_new w _)
 have C1 := box (show Calm w W1 by rw [← hW1]; exact (Calm.refl w).alloc _)
 have hrt := box (rRight_any m (.slice ka m.keys.length kcap) W1 (hk.calm C1.out) hs hz)
 have Hg := box hg
 have Hk := box hk
 have c0 := cell_of J1.out 0
 have c1 := cell_of J1.out 1
 have c2 := cell_of J1.out 2
 have c3 := cell_of J1.out 3
 have c4 := cell_of J1.out 4
 have c5 := cell_of J1.out 5
 have c6 := cell_of J1.out 6
 have c7 := cell_of J1.out 7
 have c8 := cell_of J1.out 8
 have c9 := cell_of J1.out 9
 have clt := heap_lt J1.out
 clear hg hk
 by_cases hR : RightP m
 ·rw [decide_eq_true hR] at hrt
  have hput := box (fun (w' : World) (hc : Calm W1 w') => rPut_any m (.slice ka m.keys.length kcap) w' ((Hk.out.calm C1.out).calm hc) hR)
  by_cases hk0 : m.kind = 0
  ·have hc0 : costP B.size m = 0 := by unfold costP; rw [if_neg (fun h => h.2 hk0)]
   rw [hc0]
   have t1 : (m.kind == 0) = true := by rw [hk0]; rfl
   clear hput hc0 hk0
   go_enter Tryz.func39, Tryz.ntmps39
   go_wp2_with fail
   (try rw [hW1])
   refine hrt.out.mono ?_
   rintro e w2 ⟨rfl, hc2⟩
   have J2 := box (heap_calm hc2 J1.out)
   have C2 := box (C1.out.trans hc2)
   clear hc2 c0 c1 c2 c3 c4 c5 c6 c7 c8 c9 clt
   have c0 := cell_of J2.out 0
   have c1 := cell_of J2.out 1
   have c2 := cell_of J2.out 2
   have c3 := cell_of J2.out 3
   have c4 := cell_of J2.out 4
   have c5 := cell_of J2.out 5
   have c6 := cell_of J2.out 6
   have c7 := cell_of J2.out 7
   have c8 := cell_of J2.out 8
   have c9 := cell_of J2.out 9
   have clt := heap_lt J2.out
   go_wp2_with fail
   go_ret
   exact ⟨rfl, C2.out⟩
  ·have hok : okM m := ⟨hR, hk0⟩
   have hb := recB_bounds hok.1 hok.2
   have hpE : (putS RightP m).1 = recB m := by unfold putS; rw [if_neg (fun h => h hR), if_neg hk0]
   obtain ⟨res, hres, hcase⟩ : ∃ res, costP B.size m = res ∧ ((((recB m).size = 1024 - B.size % 1024 ∨ (recB m).size + 3 ≤ 1024 - B.size % 1024) ∧ res = (recB m).size) ∨ ((recB m).size ≠ 1024 - B.size % 1024 ∧ ¬ (recB m).size + 3 ≤ 1024 - B.size % 1024 ∧ res = 1024 - B.size % 1024 + (recB m).size)) := by
    refine ⟨_, rfl, ?_⟩
    unfold costP
    rw [if_pos hok, laid_len he]
    by_cases hg : goesIn B.size (recB m).size
    ·rw [if_pos hg]; exact .inl ⟨hg, rfl⟩
    ·rw [if_neg hg]; exact .inr ⟨fun h => hg (.inl h), fun h => hg (.inr h), rfl⟩
   rw [hpE] at hput
   rw [hres]
   obtain ⟨rb, hrb⟩ : ∃ rb, recB m = rb := ⟨_, rfl⟩
   rw [hrb] at hput hb hcase
   have t1 : (m.kind == 0) = false := beq_eq_false_iff_ne.2 hk0
   obtain ⟨bs, hbs⟩ : ∃ bs, B.size = bs := ⟨_, rfl⟩
   rw [hbs] at hB he hcase
   obtain ⟨rm, hrm⟩ : ∃ rm, 1024 - bs % 1024 = rm := ⟨_, rfl⟩
   have e3 : (1024 : Int) - (bs : Int) % 1024 = (rm : Int) := by omega
   have hrm1 : rm ≤ 1024 := by omega
   obtain ⟨rs, hrs⟩ : ∃ rs, rb.size = rs := ⟨_, rfl⟩
   rw [hrs] at hb hcase
   rw [hrm] at hcase
   have Hcase := box hcase
   clear hcase hk0 hrm
   go_enter Tryz.func39, Tryz.ntmps39
   go_wp2_with fail
   (try rw [hW1])
   refine hrt.out.mono ?_
   rintro e w2 ⟨rfl, hc2⟩
   have J2 := box (heap_calm hc2 J1.out)
   have HC2 := box hc2
   have C2 := box (C1.out.trans hc2)
   clear hc2 c0 c1 c2 c3 c4 c5 c6 c7 c8 c9 clt
   have c0 := cell_of J2.out 0
   have c1 := cell_of J2.out 1
   have c2 := cell_of J2.out 2
   have c3 := cell_of J2.out 3
   have c4 := cell_of J2.out 4
   have c5 := cell_of J2.out 5
   have c6 := cell_of J2.out 6
   have c7 := cell_of J2.out 7
   have c8 := cell_of J2.out 8
   have c9 := cell_of J2.out 9
   have clt := heap_lt J2.out
   go_wp2_with fail
   refine (hput.out _ HC2.out).mono ?_
   rintro e w3 ⟨rfl, hc3⟩
   have C3 := box (C2.out.trans hc3)
   have J3 := box (heap_calm C3.out Hg.out)
   clear hc3 c0 c1 c2 c3 c4 c5 c6 c7 c8 c9 clt
   have g0 := cell_of J3.out 0
   have glt := heap_lt J3.out
   clear hput J1 J2 hrt
   go_wp2_with fail
   all_goals
    go_ret
    refine ⟨?_, C3.out⟩
    have hq := Hcase.out
    simp only [beq_eq_false_iff_ne, beq_iff_eq, not_or, not_and, ne_eq, Bool.or_eq_true, Bool.or_eq_false_iff, decide_eq_true_eq, decide_eq_false_iff_not] at *
    refine ret_int ?_
    try omega
 ·rw [decide_eq_false hR] at hrt
  have hc0 : costP B.size m = 0 := by unfold costP; rw [if_neg (fun h => hR h.1)]
  rw [hc0]
  clear hc0
  go_enter Tryz.func39, Tryz.ntmps39
  go_wp2_with fail
  (try rw [hW1])
  refine hrt.out.mono ?_
  rintro e w2 ⟨rfl, hc2⟩
  have C2 := box (C1.out.trans hc2)
  clear hc2 c0 c1 c2 c3 c4 c5 c6 c7 c8 c9 clt
  go_wp2_with fail
  go_ret
  exact ⟨rfl, C2.out⟩
end
def msgRow (A : List Rq) : List Value := A.flatMap fun x => (msgA x.2.1 x.2.2).toList
structure RT (W w : World) (g : Nat) (B : ByteArray) (bg : Nat) (A : List Rq) (iv lv : Value) : Prop where
 obj : w.heap[g]? = some (.cells #[.string B, .int .i64 (bg : Int), iv, lv] 85 (0, 0))
 ids : w.ownsRow W.heap.size 3 1 iv A.length (intN (A.map (·.1)))
 row : w.ownsRow W.heap.size 62 10 lv A.length (msgRow A)
 gW : W.heap.size ≤ g
 few : A.length ≤ 1000
 msgs : ∀ x ∈ A, StrsAt W x.2.2 x.2.1.keys ∧ x.2.1.keys.length ≤ 1000000
section
variable {W w w' : World} {g bg : Nat} {B : ByteArray} {A : List Rq} {iv lv : Value}
theorem RT.calm (h : RT W w g B bg A iv lv) (hc : Calm w w') : RT W w' g B bg A iv lv := ⟨heap_calm hc h.obj, own_calm h.ids hc, own_calm h.row hc, h.gW, h.few, h.msgs⟩
theorem RT.cells (h : RT W w g B bg A iv lv) : w.cell? ⟨g, 0, none⟩ = some (.string B) ∧ w.cell? ⟨g, 1, none⟩ = some (.int .i64 (bg : Int)) ∧ w.cell? ⟨g, 2, none⟩ = some iv ∧ w.cell? ⟨g, 3, none⟩ = some lv ∧ g < w.heap.size :=
 ⟨cell_of h.obj 0, cell_of h.obj 1, cell_of h.obj 2, cell_of h.obj 3, heap_lt h.obj⟩
theorem RT.begun (h : RT W w g B bg A iv lv) (b2 : Nat) : RT W (w.setCell ⟨g, 1, none⟩ (.int .i64 (b2 : Int))) g B b2 A iv lv := by
 have hi : iv.ownBlock ≠ some g := fun e => by obtain ⟨c, hc⟩ := own_row h.ids e; rw [h.obj] at hc; simp at hc
 have hl : lv.ownBlock ≠ some g := fun e => by obtain ⟨c, hc⟩ := own_row h.row e; rw [h.obj] at hc; simp at hc
 exact ⟨heap_set h.obj 1 _, row_same h.ids (fun b hb => heap_set_other (fun e => hi (by rw [← e]; exact hb)) _ _), row_same h.row (fun b hb => heap_set_other (fun e => hl (by rw [← e]; exact hb)) _ _), h.gW, h.few, h.msgs⟩
def RDropDone (W : World) (g : Nat) (B : ByteArray) (bg : Nat) (A : List Rq) (iv lv : Value) (w : World) (e : Ending) (w' : World) : Prop :=
 (B.size ≤ bg + 1024 ∧ e = .returned (.bool false) ∧ Calm w w') ∨ (bg + 1024 < B.size ∧ e = .returned (.bool true) ∧ RT W w' g B (bg + 1024) A iv lv ∧ Keeps (· = g) w w')
theorem rDrop_any (h : RT W w g B bg A iv lv) (hB : B.size ≤ 1000000) (hb : bg ≤ 1000000) : Calls Tryz.prog 47 #[ptrTo g] w (RDropDone W g B bg A iv lv w) := by
 obtain ⟨c0, c1, c2, c3, clt⟩ := h.cells
 have f1 := free_of h.obj 1
 have H := box h
 clear h
 obtain ⟨bs, hbs⟩ : ∃ bs, B.size = bs := ⟨_, rfl⟩
 unfold RDropDone
 rw [hbs] at hB ⊢
 by_cases hd : bs ≤ bg + 1024
 ·have t1 : decide ((bs : Int) ≤ (bg : Int) + 1024) = true := decide_eq_true (by omega)
  go_enter Tryz.func47, Tryz.ntmps47
  go_wp2_with (first | go_quiet (fail) | fail)
  go_ret
  exact .inl ⟨hd, rfl, (Calm.refl _).drewN _⟩
 ·have t1 : decide ((bs : Int) ≤ (bg : Int) + 1024) = false := decide_eq_false (by omega)
  go_enter Tryz.func47, Tryz.ntmps47
  go_wp2_with (first | go_quiet (fail) | fail)
  go_ret
  exact .inr ⟨by omega, rfl, (H.out.calm ((Calm.refl w).drewN _)).begun (bg + 1024), Keeps.setCell (F := (· = g)) (Keeps.of_calm ((Calm.refl w).drewN _)) (p := ⟨g, 1, none⟩) (.inl rfl) _⟩
theorem RT.num (h : RT W w g B bg A iv lv) {i : Nat} (hi : i < A.length) : ∃ b cap, iv = .slice (some ⟨b, 0, none⟩) A.length cap ∧ A.length ≤ cap ∧ b < w.heap.size ∧ w.cell? ⟨b, i, none⟩ = some (.int .i64 (A[i].1 : Int)) := by
 have hr := h.ids
 rcases hr.2 with ⟨rfl, hn⟩ | ⟨b, cap, cur, rfl, hb, hg, hnc, hcm, hcs, htake⟩
 ·omega
 ·refine ⟨b, cap, rfl, hnc, heap_lt hg, ?_⟩
  have := hr.cells (g := b) rfl i (.int .i64 (A[i].1 : Int)) (by simp [intN, hi])
  simpa [add_lit] using this
def FindDone (A : List Rq) (bg : Nat) (k : Int) (e : Ending) : Prop :=
 (∃ (i : Nat) (hi : i < A.length), (A[i].1 : Int) = k ∧ (bg : Int) ≤ k ∧ e = .returned (.int .i64 (i : Int))) ∨ ((∀ x ∈ A, ¬ ((x.1 : Int) = k ∧ (bg : Int) ≤ k)) ∧ e = .returned (.int .i64 (-1)))
set_option maxHeartbeats 8000000 in
theorem rFind_any (k : Int) (h : RT W w g B bg A iv lv) : Calls Tryz.prog 48 #[ptrTo g, .int .i64 k] w fun e w' => FindDone A bg k e ∧ Calm w w' := by
 have H := box h
 have hfew := h.few
 obtain ⟨ia, icap, rfl, hcap⟩ := row_cap h.ids
 clear h
 go_enter Tryz.func48, Tryz.ntmps48
 go_wp2_with fail
 go_loopw [5] (fun i wr => ∃ n : Nat, n ≤ A.length ∧ i = .int .i64 (n : Int) ∧ Box (Calm w wr) ∧ Box (∀ j (hj : j < n) (hj' : j < A.length), ¬ ((A[j].1 : Int) = k ∧ (bg : Int) ≤ k))) (fun i _ => A.length - (intOf i).toNat)
 case atStart => exact ⟨0, Nat.zero_le _, rfl, box (Calm.refl _), box (fun j hj => absurd hj (Nat.not_lt_zero _))⟩
 case round =>
  obtain ⟨n, hn, rfl, HC, HN⟩ := hrel
  have HR := box (H.out.calm HC.out)
  obtain ⟨c0, c1, c2, c3, clt⟩ := HR.out.cells
  by_cases hnl : n < A.length
  ·obtain ⟨b, cap, hs, hle, hb, d0⟩ := HR.out.num hnl
   simp only [Value.slice.injEq] at hs
   obtain ⟨rfl, _, rfl⟩ := hs
   obtain ⟨x, hx⟩ : ∃ x : Nat, A[n].1 = x := ⟨_, rfl⟩
   rw [hx] at d0
   have Hx := box hx
   clear hx
   by_cases h1 : (x : Int) = k
   ·subst h1
    by_cases h2 : bg ≤ x
    ·have t2 : decide ((bg : Int) ≤ (x : Int)) = true := decide_eq_true (by omega)
     have t3 : decide (bg ≤ x) = true := decide_eq_true h2
     have HD := box (show FindDone A bg (x : Int) (.returned (.int .i64 (n : Int))) from .inl ⟨n, hnl, by rw [Hx.out], by omega, rfl⟩)
     go_wp2_with fail
     go_ret
     exact ⟨HD.out, HC.out⟩
    ·have t2 : decide ((bg : Int) ≤ (x : Int)) = false := decide_eq_false (by omega)
     have t3 : decide (bg ≤ x) = false := decide_eq_false h2
     have HN2 := box (show ∀ j (hj : j < n + 1) (hj' : j < A.length), ¬ ((A[j].1 : Int) = (x : Int) ∧ (bg : Int) ≤ (x : Int)) from fun j hj hj' e => h2 (by omega))
     go_wp2_with fail
     go_roundw
     case rel => exact ⟨n + 1, by omega, by go_num, HC, HN2⟩
     case measure => simp [intOf]; omega
   ·have t1 : ((x : Int) == k) = false := beq_eq_false_iff_ne.2 h1
    have HN2 := box (show ∀ j (hj : j < n + 1) (hj' : j < A.length), ¬ ((A[j].1 : Int) = k ∧ (bg : Int) ≤ k) from fun j hj hj' e => by
     by_cases ej : j = n
     ·subst ej; rw [Hx.out] at e; exact h1 e.1
     ·exact HN.out j (by omega) hj' e)
    clear h1
    go_wp2_with fail
    go_roundw
    case rel => exact ⟨n + 1, by omega, by go_num, HC, HN2⟩
    case measure => simp [intOf]; omega
  ·have hne : n = A.length := by omega
   subst hne
   have HD := box (show FindDone A bg k (.returned (.int .i64 (-1))) from .inr ⟨fun x hx => by
    obtain ⟨j, hj, rfl⟩ := List.getElem_of_mem hx
    exact HN.out j hj hj, rfl⟩)
   go_wp2_with fail
   go_ret
   exact ⟨HD.out, HC.out⟩
end
section
variable {W w w' w2 : World} {t t' p n g c k bg : Nat} {S S' : TS} {G G' : Nat → Prop} {B B2 : ByteArray} {A : List Rq} {iv lv iv2 lv2 : Value}
theorem RT.same (h : RT W w g B bg A iv lv) (hs : ∀ b, b = g ∨ iv.ownBlock = some b ∨ lv.ownBlock = some b → w'.heap[b]? = w.heap[b]?) : RT W w' g B bg A iv lv :=
 ⟨(hs g (.inl rfl)).trans h.obj, row_same h.ids (fun b hb => hs b (.inr (.inl hb))), row_same h.row (fun b hb => hs b (.inr (.inr hb))), h.gW, h.few, h.msgs⟩
def RAppDone (W : World) (g : Nat) (B : ByteArray) (bg : Nat) (A : List Rq) (iv lv : Value) (m : MsgS) (kv : Value) (w : World) (e : Ending) (w' : World) : Prop :=
 e = .returned (.int .i64 (idP B.size m : Int)) ∧ ∃ B2 iv2 lv2, B2.size = B.size + costP B.size m ∧ RT W w' g B2 bg (A ++ [(idP B.size m, m, kv)]) iv2 lv2 ∧ Keeps (fun b => b = g ∨ iv.ownBlock = some b ∨ lv.ownBlock = some b) w w' ∧
  (∀ b, iv2.ownBlock = some b → iv.ownBlock = some b ∨ w.heap.size ≤ b) ∧ (∀ b, lv2.ownBlock = some b → lv.ownBlock = some b ∨ w.heap.size ≤ b)
structure Py (W : World) (t p g c k : Nat) (S : TS) (G : Nat → Prop) (B : ByteArray) (A : List Rq) (iv lv : Value) (w : World) : Prop where
 tp : ∃ n, Tp W t p n S G w ∧ n ≤ 2 * k
 able : Able S.D c (1347 * k)
 synced : S.R.synced ≤ S.R.fin
 tight : Tight S.R
 rt : RT W w g B S.R.start A iv lv
 size : B.size = S.R.fin
 fin : S.R.fin ≤ 1345 * k
 recs : S.recs = (A.filter fun x => decide (S.R.start ≤ x.1)).map numR
 rise : A.Pairwise (fun x y => x.1 < y.1)
 below : ∀ x ∈ A, x.1 < S.R.fin
 gG : ¬ G g
 ivG : ∀ b, iv.ownBlock = some b → ¬ G b
 lvG : ∀ b, lv.ownBlock = some b → ¬ G b
 few : A.length ≤ k
theorem Py.calm (h : Py W t p g c k S G B A iv lv w) (hc : Calm w w') : Py W t p g c k S G B A iv lv w' := by
 obtain ⟨n, h1, h2⟩ := h.tp
 exact ⟨⟨n, h1.calm hc, h2⟩, h.able, h.synced, h.tight, h.rt.calm hc, h.size, h.fin, h.recs, h.rise, h.below, h.gG, h.ivG, h.lvG, h.few⟩
theorem Py.owns (h : Py W t p g c k S G B A iv lv w) : Calm W w := by
 obtain ⟨n, h1, _⟩ := h.tp
 exact h1.owns
theorem Py.stands (h : Py W t p g c k S G B A iv lv w) (hS : Step G w G' w') : RT W w' g B S.R.start A iv lv ∧ ¬ G' g ∧ (∀ b, iv.ownBlock = some b → ¬ G' b) ∧ (∀ b, lv.ownBlock = some b → ¬ G' b) := by
 have hg := heap_lt h.rt.obj
 refine ⟨h.rt.same (fun b hb => ?_), step_not hS hg h.gG, fun b hb => step_not hS (h.rt.ids.lt b hb).2 (h.ivG b hb), fun b hb => step_not hS (h.rt.row.lt b hb).2 (h.lvG b hb)⟩
 rcases hb with rfl | hb | hb
 ·exact hS.keeps.block _ hg h.gG
 ·exact hS.keeps.block b (h.rt.ids.lt b hb).2 (h.ivG b hb)
 ·exact hS.keeps.block b (h.rt.row.lt b hb).2 (h.lvG b hb)
theorem Py.still (h : Py W t p g c k S G B A iv lv w) {k' : Nat} (hk : k ≤ k') (hT : Tp W t' p n S' G' w') (hn : n ≤ 2 * k') (ha : Able S'.D c (1347 * k')) (hst : S'.R.start = S.R.start) (hfi : S'.R.fin = S.R.fin) (hps : S'.ps = S.ps) (hsy : S'.R.synced ≤ S'.R.fin) (hti : Tight S'.R) (hS : Step G w G' w') :
  Py W t' p g c k' S' G' B A iv lv w' := by
 obtain ⟨o1, o2, o3, o4⟩ := h.stands hS
 have hr : S'.recs = S.recs := by show tp.recs S'.R.start S'.ps = tp.recs S.R.start S.ps; rw [hst, hps]
 exact ⟨⟨n, hT, hn⟩, ha, hsy, hti, by rw [hst]; exact o1, h.size.trans hfi.symm, by have := h.fin; omega, by rw [hr, hst]; exact h.recs, h.rise, by rw [hfi]; exact h.below, o2, o3, o4, by have := h.few; omega⟩
theorem Py.more (h : Py W t p g c k S G B A iv lv w) : Py W t p g c (k + 1) S G B A iv lv w := by
 obtain ⟨n, h1, h2⟩ := h.tp
 exact h.still (by omega) h1 (by omega) (h.able.mono (by omega)) rfl rfl rfl h.synced h.tight (Step.of_calm (.refl w))
theorem Py.disk (h : Py W t p g c k S G B A iv lv w) : ∃ n F, DiskOk w p S.D F n := by
 obtain ⟨n, h1, _⟩ := h.tp
 obtain ⟨r, sb, mb, F, v, iw, hT, _⟩ := h1.at_
 exact ⟨_, _, hT.seg.disk⟩
theorem Py.room (h : Py W t p g c k S G B A iv lv w) : Calls Tryz.prog 45 #[ptrTo p] w fun e w' => e = .returned (.int .i64 ((c : Int) - S.D.size)) ∧ Calm w w' := by
 obtain ⟨n, F, hd⟩ := h.disk
 have := room_size hd
 rwa [h.able.cap] at this
def PyApp (W : World) (t p g c k : Nat) (S : TS) (G : Nat → Prop) (m : MsgS) (kv : Value) (B : ByteArray) (A : List Rq) (iv lv : Value) (w : World) (e : Ending) (w' : World) : Prop := Keeps G w w' ∧ (
 (costP B.size m = 0 ∧ e = .returned (.tuple #[.int .i64 0, .int .i64 1]) ∧ ∃ G', Py W t p g c (k + 1) S G' B A iv lv w') ∨
 (0 < costP B.size m ∧ (c : Int) - S.D.size < (costP B.size m : Int) ∧ e = .returned (.tuple #[.int .i64 0, .int .i64 7]) ∧ ∃ G', Py W t p g c (k + 1) S G' B A iv lv w') ∨
 (0 < costP B.size m ∧ (costP B.size m : Int) ≤ (c : Int) - S.D.size ∧ e = .returned (.tuple #[.int .i64 (idP B.size m : Int), .int .i64 0]) ∧ okM m ∧ RT W w' g B S.R.start A iv lv ∧
  ∀ e2 w2, RAppDone W g B S.R.start A iv lv m kv w' e2 w2 → e2 = .returned (.int .i64 (idP B.size m : Int)) ∧ ∃ S' G' B' A' iv' lv', S'.R.start = S.R.start ∧ Py W t p g c (k + 1) S' G' B' A' iv' lv' w2))
theorem cost_pos {e : Nat} {m : MsgS} (h : okM m) : 0 < costP e m := by
 have hb := recB_bounds h.1 h.2
 unfold costP
 rw [if_pos h]
 unfold laidP
 split
 ·rw [flat_len_cons, Pc.len_one]; omega
 ·rw [flat_len_cons, flat_len_cons, Pc.len_one]; omega
theorem Py.append (h : Py W t p g c k S G B A iv lv w) (hk : k ≤ 500) (m : MsgS) (kv : Value) (hm : Fair w m kv) :
  Calls Tryz.prog 29 #[ptrTo t, .agg (msgA m kv)] w (PyApp W t p g c k S G m kv B A iv lv w) := by
 obtain ⟨n, h1, h2⟩ := h.tp
 have hf := h.fin
 have hsz := h.size
 refine (Append_any m kv w h1 hm (by omega) (by omega)).mono ?_
 unfold PyApp
 rw [hsz]
 rintro e w' ⟨S', G', h3, h4, h5⟩
 refine ⟨h4.keeps, ?_⟩
 rcases h5 with ⟨a1, rfl, rfl⟩ | ⟨a1, a2, _⟩ | ⟨a1, a2, a3, rfl, rfl⟩ | ⟨a1, a2, a3, _, a4⟩ | ⟨a1, a2, a3, rfl, a4⟩
 ·exact .inl ⟨by unfold costP; rw [if_neg a1], rfl, G', h.still (by omega) h3 (by omega) (h.able.mono (by omega)) rfl rfl rfl h.synced h.tight h4⟩
 ·rw [h.able.alive.down] at a2; cases a2
 ·rw [h.able.cap] at a3
  exact .inr (.inl ⟨cost_pos a1, a3, rfl, G', h.still (by omega) h3 (by omega) (h.able.mono (by omega)) rfl rfl rfl h.synced h.tight h4⟩)
 ·exact absurd h.able.alive a4.dead
 ·rw [h.able.cap] at a3
  have hc := cost_le S.R.fin m
  obtain ⟨o1, o2, o3, o4⟩ := h.stands h4
  refine .inr (.inr ⟨cost_pos a1, a3, rfl, a1, o1, ?_⟩)
  rintro e2 w2 ⟨rfl, B', iv', lv', r1, r2, r3, r4, r5⟩
  rw [hsz] at r1 r2 ⊢
  have hst : S'.R.start = S.R.start := a4.kin.start
  have hids := id_facts a1 h1.end_ok
  have hrec : S'.recs = S.recs ++ [(idP S.R.fin m, m)] := by
   show tp.recs S'.R.start S'.ps = tp.recs S.R.start S.ps ++ _
   rw [a4.ps, hst, recs_append, ← h1.holds.size, laid_recs h1.end_ok]
  have hkeep : Keeps (fun b => b = g ∨ iv.ownBlock = some b ∨ lv.ownBlock = some b) w' w2 := r3
  have hg' := heap_lt o1.obj
  have hcW : Calm W w2 := Below.trans h3.owns (hkeep.below h3.owns.size (fun b hb => by
   rcases hb with rfl | hb | hb
   ·exact h.rt.gW
   ·exact (h.rt.ids.lt b hb).1
   ·exact (h.rt.row.lt b hb).1))
  refine ⟨rfl, S', G', B', _, iv', lv', hst, ⟨⟨n + 2, h3.keep hkeep (fun b hb e => ?_) hcW, by omega⟩, ⟨a4.alive h.able.alive, a4.cap.trans h.able.cap, ?_, ?_, ?_⟩, ?_, a4.tight, by rw [hst]; exact r2, by rw [r1, a4.fin], ?_, ?_, ?_, ?_, o2, ?_, ?_, ?_⟩⟩
  ·rcases e with rfl | e | e
   ·exact o2 hb
   ·exact o3 b e hb
   ·exact o4 b e hb
  ·have := a4.size; have := h.able.size; omega
  ·have := a4.few; have := h.able.few; rw [List.length_map] at this ⊢; omega
  ·intro s hs
   obtain ⟨f, hf, rfl⟩ := List.mem_map.1 hs
   exact a4.names (fun f hf => h.able.names f.name (List.mem_map.2 ⟨f, hf, rfl⟩)) f hf
  ·have := a4.kin.synced; have := a4.fin; have := h.synced; omega
  ·have := a4.fin; omega
  ·rw [hrec, h.recs, hst, List.filter_append, List.map_append]
   congr 1
   have : decide (S.R.start ≤ idP S.R.fin m) = true := decide_eq_true (by have := h1.holds.size; omega)
   simp [List.filter_cons, this, numR]
  ·rw [List.pairwise_append]
   refine ⟨h.rise, List.pairwise_singleton _ _, fun x hx y hy => ?_⟩
   rw [List.mem_singleton] at hy
   subst hy
   have := h.below x hx
   show x.1 < idP S.R.fin m
   omega
  ·intro x hx
   rcases List.mem_append.1 hx with hx | hx
   ·have := h.below x hx; have := a4.fin; omega
   ·rw [List.mem_singleton] at hx
    subst hx
    have := a4.fin
    show idP S.R.fin m < _
    omega
  ·intro b hb e
   rcases r4 b hb with h5 | h5
   ·exact o3 b h5 e
   ·have := h3.lt b e; omega
  ·intro b hb e
   rcases r5 b hb with h5 | h5
   ·exact o4 b h5 e
   ·have := h3.lt b e; omega
  ·rw [List.length_append, List.length_singleton]; have := h.few; omega
theorem Py.sync (h : Py W t p g c k S G B A iv lv w) (hk : k ≤ 500) : Calls Tryz.prog 33 #[ptrTo t] w fun e w' => e = .returned (.int .i64 0) ∧ ∃ S' G', S'.R.start = S.R.start ∧ S'.R.synced = S'.R.fin ∧ Py W t p g c (k + 1) S' G' B A iv lv w' ∧ Keeps G w w' := by
 obtain ⟨n, h1, h2⟩ := h.tp
 refine (Sync_any w h1 h.able (by omega) h.synced).mono ?_
 rintro e w' ⟨rfl, E, G', h3, h4, h5, _⟩
 exact ⟨rfl, ⟨E, S.R.clean, S.ps, S.last⟩, G', rfl, rfl, h.still (by omega) h3 (by omega) (h5.mono (by omega)) rfl rfl rfl (Nat.le_refl _) h.tight h4, h4.keeps⟩
theorem Py.open_ (h : Py W t p g c k S G B A iv lv w) (ht : Tab W) (hk : k ≤ 500) : Calls Tryz.prog 26 #[ptrTo p] w fun e w' => ∃ t' S' G', e = .returned (.tuple #[ptrTo t', .int .i64 0]) ∧ S'.R.start = S.R.start ∧ S'.R.synced = S'.R.fin ∧ Py W t' p g c (k + 1) S' G' B A iv lv w' ∧ Keeps G w w' := by
 obtain ⟨n, h1, hn⟩ := h.tp
 obtain ⟨r, sb, mb, F, v, iw, hT, hG⟩ := h1.at_
 have ho := h1.holds.open h.able.alive hT.seg.disk.form
 rw [h1.head, h1.size] at ho
 have hfew := h1.few
 have hfi := h.fin
 have hab := h.able
 refine (Open_any (ps := S.ps) (tl := []) (E := S.D) (R := S.R.anew) (c := c) (m := 1347 * k) w hT.seg.disk ht hT.seg.calm hT.seg.fW (by omega) hab.file (by have := hab.files; omega) ho (by rw [List.append_nil]; exact h1.holds.anew) hab h1.head h1.size rfl h1.fit (.inl rfl) (by omega)).mono ?_
 rintro e w' ⟨t', D', R', last, G', rfl, _, hO⟩
 have hS : Step G w G' w' := ⟨hO.step.keeps.mono (fun b _ hb => (hG b).2 (.inl hb)), fun b hb => by
  rcases hO.step.foot b hb with h2 | h2
  ·exact .inl ((hG b).2 (.inl h2))
  ·exact .inr h2⟩
 have hst : R'.start = S.R.start := hO.start
 have hfin : R'.fin = S.R.fin := by rw [hO.fin]; exact h1.holds.size.symm
 exact ⟨t', ⟨D', R', S.ps, last⟩, G', rfl, hst, hO.synced, h.still (by omega) hO.tp (by omega) (hO.able.mono (by omega)) hst hfin rfl (Nat.le_of_eq hO.synced) (hO.tight h.tight) hS, hS.keeps⟩
def PyDrop (W : World) (t p g c k : Nat) (S : TS) (G : Nat → Prop) (B : ByteArray) (A : List Rq) (iv lv : Value) (w : World) (e : Ending) (w' : World) : Prop :=
 RT W w' g B S.R.start A iv lv ∧ Keeps G w w' ∧ ((B.size ≤ S.R.start + 1024 ∧ e = .returned (.tuple #[.int .i64 0, .int .i64 9]) ∧ ∃ G', Py W t p g c (k + 1) S G' B A iv lv w') ∨
 (S.R.start + 1024 < B.size ∧ e = .returned (.tuple #[.int .i64 ((S.R.start + 1024 : Nat) : Int), .int .i64 0]) ∧
  ∀ w2, RT W w2 g B (S.R.start + 1024) A iv lv → Keeps (· = g) w' w2 → ∃ S' G', S'.R.start = S.R.start + 1024 ∧ Py W t p g c (k + 1) S' G' B A iv lv w2))
theorem Py.drop (h : Py W t p g c k S G B A iv lv w) (hk : k ≤ 500) : Calls Tryz.prog 32 #[ptrTo t] w (PyDrop W t p g c k S G B A iv lv w) := by
 obtain ⟨n, h1, h2⟩ := h.tp
 have hf := h.fin
 have hsz := h.size
 have hiff := two_iff h1.holds.ok h.tight
 have hz := h1.size
 rw [hz] at hiff
 unfold PyDrop
 rw [hsz]
 refine (Drop_any w h1 h.able (by omega) (by omega)).mono ?_
 rintro e w' (⟨h3, rfl, G5, hT5, hS5⟩ | ⟨h3, rfl, E5, G5, ps1, ps2, hps, hl5, hT5, hS5, ha5, _⟩)
 ·exact ⟨(h.stands hS5).1, hS5.keeps, .inl ⟨by omega, rfl, G5, h.still (by omega) hT5 (by omega) (h.able.mono (by omega)) rfl rfl rfl h.synced h.tight hS5⟩⟩
 ·have h4 := hiff.1 h3
  obtain ⟨o1, o2, o3, o4⟩ := h.stands hS5
  refine ⟨o1, hS5.keeps, .inr ⟨h4, rfl, fun w2 hr hK => ?_⟩⟩
  have hcW : Calm W w2 := Below.trans hT5.owns (hK.below hT5.owns.size (fun b hb => by rw [hb]; exact h.rt.gW))
  have hst2 : S.R.rest.start = S.R.start + 1024 := by show S.R.start + S.R.size = _; rw [hz]
  have hfit := h1.fit
  rw [hps, fitL_append, hl5] at hfit
  refine ⟨⟨E5, S.R.rest, ps2, S.last⟩, G5, hst2, ⟨⟨n, hT5.keep hK (fun b hb e => by subst e; exact o2 hb) hcW, by omega⟩, ha5.mono (by omega), ?_, Tight.rest h3 h.tight, by rw [hst2]; exact hr, hsz, by show S.R.fin ≤ _; omega, ?_, h.rise, h.below, o2, o3, o4, by have := h.few; omega⟩⟩
  ·show max S.R.synced (S.R.start + S.R.size) ≤ S.R.fin
   have := h.synced; omega
  ·have hr1 : S.recs = tp.recs S.R.start ps1 ++ tp.recs (S.R.start + 1024) ps2 := by
    show tp.recs S.R.start S.ps = _
    rw [hps, recs_append, hl5]
   have e1 : (tp.recs S.R.start ps1).filter (fun y => decide (S.R.start + 1024 ≤ y.1)) = [] := List.filter_eq_nil_iff.2 fun y hy => by
    have h5 := recs_range ps1 _ hfit.1 y hy
    have h6 := recB_bounds h5.2.2.1 h5.2.2.2.1
    rw [decide_eq_true_eq]; omega
   have e2 : (tp.recs (S.R.start + 1024) ps2).filter (fun y => decide (S.R.start + 1024 ≤ y.1)) = tp.recs (S.R.start + 1024) ps2 := List.filter_eq_self.2 fun y hy => by
    have h5 := recs_range ps2 _ hfit.2 y hy
    exact decide_eq_true (by omega)
   show tp.recs (S.R.start + S.R.size) ps2 = _
   rw [hst2, hz]
   have h7 : S.recs.filter (fun y => decide (S.R.start + 1024 ≤ y.1)) = tp.recs (S.R.start + 1024) ps2 := by rw [hr1, List.filter_append, e1, e2, List.nil_append]
   rw [← h7, h.recs, List.filter_map, List.filter_filter]
   congr 1
   apply List.filter_congr
   intro x _
   simp only [Function.comp, numR]
   by_cases h8 : S.R.start + 1024 ≤ x.1
   ·simp [h8, show S.R.start ≤ x.1 by omega]
   ·simp [h8]
def fromR (A : List Rq) (bg : Nat) (a : Int) : List Rq := A.filter fun x => decide (a ≤ (x.1 : Int)) && decide (bg ≤ x.1)
theorem Py.from_ (h : Py W t p g c k S G B A iv lv w) (a : Int) : fromL S.recs a = (fromR A S.R.start a).map numR := by
 unfold fromL fromR
 rw [h.recs, List.filter_map, List.filter_filter]
 rfl
end
section
variable {W w w' w2 : World} {g bg : Nat} {B : ByteArray} {A : List Rq} {iv lv : Value}
def NumsR (B : Nat) (l : List Rq) (w : World) (e : Ending) (w' : World) : Prop := ∃ a cap, e = .returned (.slice a l.length cap) ∧ w'.ownsRow B 3 1 (.slice a l.length cap) l.length (intN (l.map (·.1))) ∧ Calm w w'
theorem fromR_yes {n : Nat} (hn : n < A.length) {a : Int} (h1 : a ≤ (A[n].1 : Int)) (h2 : bg ≤ A[n].1) : fromR (A.take (n + 1)) bg a = fromR (A.take n) bg a ++ [A[n]] := by
 unfold fromR
 rw [List.take_succ_eq_append_getElem hn, List.filter_append]
 simp [List.filter_cons, h1, h2]
theorem fromR_no {n : Nat} (hn : n < A.length) {a : Int} (h : ¬ (a ≤ (A[n].1 : Int) ∧ bg ≤ A[n].1)) : fromR (A.take (n + 1)) bg a = fromR (A.take n) bg a := by
 unfold fromR
 rw [List.take_succ_eq_append_getElem hn, List.filter_append]
 have : (decide (a ≤ (A[n].1 : Int)) && decide (bg ≤ A[n].1)) = false := by
  rw [Bool.and_eq_false_iff, decide_eq_false_iff_not, decide_eq_false_iff_not]
  by_cases h1 : a ≤ (A[n].1 : Int)
  ·exact .inr fun h2 => h ⟨h1, h2⟩
  ·exact .inl h1
 rw [List.filter_cons, if_neg (by rw [this]; exact Bool.false_ne_true), List.filter_nil, List.append_nil]
theorem fromR_le (A : List Rq) (bg : Nat) (a : Int) : (fromR A bg a).length ≤ A.length := List.length_filter_le _ _
def FrAt (w : World) (A : List Rq) (bg : Nat) (a : Int) (n : Nat) (ov : Value) (wr : World) : Prop :=
 Calm w wr ∧ wr.ownsRow w.heap.size 3 1 ov (fromR (A.take n) bg a).length (intN ((fromR (A.take n) bg a).map (·.1)))
theorem FrAt.app {a : Int} {n : Nat} {ov : Value} (h : FrAt w A bg a n ov w') (hn : n < A.length) (hfew : A.length ≤ 1000) (h1 : a ≤ (A[n].1 : Int)) (h2 : bg ≤ A[n].1) :
  ∃ ov2 w2, (Builtin.append_ #[69, 69] 69 #[ov, .slice (some ⟨w'.heap.size, 0, none⟩) 1 1]).run Tryz.prog (w'.alloc (.cells #[.int .i64 (A[n].1 : Int)] 3)) = .ok ov2 w2 ∧ FrAt w A bg a (n + 1) ov2 w2 := by
 obtain ⟨hc, hr⟩ := h
 have hle := fromR_le (A.take n) bg a
 rw [List.length_take] at hle
 obtain ⟨ov2, w2, e1, e2, e3, e4⟩ := append_place (w'.alloc (.cells #[.int .i64 (A[n].1 : Int)] 3)) ov ((fromR (A.take n) bg a).map (·.1)) A[n].1 w'.heap.size (by rw [List.length_map]; exact row_zero (own_calm hr ((Calm.refl w').alloc _))) (heap_new _ _) (by rw [List.length_map]; omega) 69
 refine ⟨ov2, w2, e1, ?_, ?_⟩
 ·exact Below.trans hc (((Keeps.refl (fun b => ov.ownBlock = some b) w').alloc _ |>.trans' e3).below hc.size (fun b hb => (hr.lt b hb).1))
 ·rw [fromR_yes hn h1 h2, List.map_append]
  have e5 : (fromR (A.take n) bg a ++ [A[n]]).length = ((fromR (A.take n) bg a).map (·.1) ++ [A[n].1]).length := by simp
  rw [e5]
  refine row_base e2 (fun b hb => ?_)
  rcases e4 b hb with h5 | h5
  ·exact (hr.lt b h5).1
  ·rw [World.size_alloc] at h5; have := hc.size; omega
theorem FrAt.skip {a : Int} {n : Nat} {ov : Value} (h : FrAt w A bg a n ov w') (hn : n < A.length) (hx : ¬ (a ≤ (A[n].1 : Int) ∧ bg ≤ A[n].1)) : FrAt w A bg a (n + 1) ov w' := by
 unfold FrAt
 rw [fromR_no hn hx]
 exact h
theorem FrAt.calm {a : Int} {n : Nat} {ov : Value} (h : FrAt w A bg a n ov w') (hc : Calm w' w2) : FrAt w A bg a n ov w2 := ⟨h.1.trans hc, own_calm h.2 hc⟩
set_option maxHeartbeats 8000000 in
theorem rFrom_any (a : Int) (h : RT W w g B bg A iv lv) : Calls Tryz.prog 51 #[ptrTo g, .int .i64 a] w (NumsR w.heap.size (fromR A bg a) w) := by
 have H := box h
 have hfew := h.few
 obtain ⟨ia, icap, rfl, hcap⟩ := row_cap h.ids
 clear h
 go_enter Tryz.func51, Tryz.ntmps51
 go_wp2_with fail
 go_loopw [5, 6] (fun ov i wr => ∃ n : Nat, n ≤ A.length ∧ i = .int .i64 (n : Int) ∧ Box (FrAt w A bg a n ov wr)) (fun _ i _ => A.length - (intOf i).toNat)
 case atStart => exact ⟨0, Nat.zero_le _, rfl, box ⟨by first | exact Calm.refl _ | exact (Calm.refl _).alloc _, ⟨rfl, .inr ⟨_, 0, #[], rfl, Nat.le_refl _, heap_new _ _, Nat.le_refl _, by simp [maxLen], rfl, rfl⟩⟩⟩⟩
 case round =>
  obtain ⟨n, hn, rfl, HF⟩ := hrel
  have HR := box (H.out.calm HF.out.1)
  obtain ⟨c0, c1, c2, c3, clt⟩ := HR.out.cells
  obtain ⟨oa, on, oc, rfl⟩ := row_slice HF.out.2
  by_cases hnl : n < A.length
  ·obtain ⟨b, cap, hs, hle, hb, d0⟩ := HR.out.num hnl
   simp only [Value.slice.injEq] at hs
   obtain ⟨rfl, _, rfl⟩ := hs
   by_cases h1 : a ≤ (A[n].1 : Int)
   ·by_cases h2 : bg ≤ A[n].1
    ·have Happ0 := box (fun q => (HF.out.calm ((Calm.refl wr).drewN q)).app hnl hfew h1 h2)
     obtain ⟨x, hx⟩ : ∃ x : Nat, A[n].1 = x := ⟨_, rfl⟩
     rw [hx] at d0 h1 h2 Happ0
     have t1 : decide (a ≤ (x : Int)) = true := decide_eq_true h1
     have t2 : decide ((bg : Int) ≤ (x : Int)) = true := decide_eq_true (by omega)
     have t3 : decide (bg ≤ x) = true := decide_eq_true h2
     clear hx
     go_upto_region 6 with (first | go_quiet (fail) | fail)
     obtain ⟨ov2, w2, happ, hF2⟩ := Happ0.out nq
     obtain ⟨oa2, on2, oc2, rfl⟩ := row_slice hF2.2
     have Happ := box happ
     have HF2 := box hF2
     clear happ hF2 Happ0
     go_wp2_with (first | (at_builtin; refine Lib.wpList_append_run _ rfl _ _ _ _ rfl _ _ rfl rfl _ _ Happ.out ?_) | go_quiet (fail) | fail)
     go_roundw
     case rel => exact ⟨n + 1, by omega, by go_num, HF2⟩
     case measure => simp [intOf]; omega
    ·have HF2 := box (fun q => (HF.out.calm ((Calm.refl wr).drewN q)).skip hnl (fun e => h2 e.2))
     obtain ⟨x, hx⟩ : ∃ x : Nat, A[n].1 = x := ⟨_, rfl⟩
     rw [hx] at d0 h1 h2
     have t1 : decide (a ≤ (x : Int)) = true := decide_eq_true h1
     have t2 : decide ((bg : Int) ≤ (x : Int)) = false := decide_eq_false (by omega)
     have t3 : decide (bg ≤ x) = false := decide_eq_false h2
     clear hx
     go_wp2_with (first | go_quiet (fail) | fail)
     go_roundw
     case rel => exact ⟨n + 1, by omega, by go_num, box (HF2.out _)⟩
     case measure => simp [intOf]; omega
   ·have HF2 := box (fun q => (HF.out.calm ((Calm.refl wr).drewN q)).skip hnl (fun e => h1 e.1))
    obtain ⟨x, hx⟩ : ∃ x : Nat, A[n].1 = x := ⟨_, rfl⟩
    rw [hx] at d0 h1
    have t1 : decide (a ≤ (x : Int)) = false := decide_eq_false h1
    clear hx
    go_wp2_with (first | go_quiet (fail) | fail)
    go_roundw
    case rel => exact ⟨n + 1, by omega, by go_num, box (HF2.out _)⟩
    case measure => simp [intOf]; omega
  ·obtain rfl : n = A.length := by omega
   have HD := box (show NumsR w.heap.size (fromR A bg a) w (.returned (.slice oa on oc)) _ from by
    have h3 := HF.out.2
    have h4 := HF.out.1
    rw [List.take_length] at h3
    obtain ⟨a5, c5, h5, _⟩ := row_cap h3
    simp only [Value.slice.injEq] at h5
    obtain ⟨rfl, rfl, rfl⟩ := h5
    exact ⟨_, _, rfl, h3, h4⟩)
   go_wp2_with fail
   go_ret
   exact HD.out
end
section
variable {W w w' w2 : World} {g bg : Nat} {B B2 : ByteArray} {I : List Nat} {A : List Rq} {iv lv : Value}
theorem infoByte : (Tryz.prog.info? 5).map (fun i => (i.zero, i.size, i.bytes)) = some (some (.int .u8 0), 1, 1) := by kernel_rfl
theorem infoMsg : (Tryz.prog.info? 62).map (fun i => (i.zero, i.size, i.bytes)) = some (some (.agg zeroA), 10, 120) := by kernel_rfl
theorem msg_cells (m : MsgS) (kv : Value) : (msgA m kv).toList.length = 10 := rfl
theorem msgRow_len (A : List Rq) : (msgRow A).length = A.length * 10 := by
 unfold msgRow
 induction A with
 | nil => rfl
 | cons x A ih => rw [List.flatMap_cons, List.length_append, ih, msg_cells, List.length_cons]; omega
theorem append_msg (w : World) (v : Value) (A : List Rq) (x : Rq) (g0 : Nat) (hk : ∃ a n c, x.2.2 = .slice a n c) (h : w.ownsRow 0 62 10 v A.length (msgRow A)) (hb : w.heap[g0]? = some (.cells (msgA x.2.1 x.2.2) 62 (0, 0))) (hl : A.length ≤ 1000000) (ty : TypeId) :
  ∃ v' w', (Builtin.append_ #[55, 55] ty #[v, .slice (some ⟨g0, 0, none⟩) 1 1]).run Tryz.prog w = .ok v' w' ∧
   w'.ownsRow 0 62 10 v' (A ++ [x]).length (msgRow (A ++ [x])) ∧ Keeps (fun g => v.ownBlock = some g) w w' ∧ ∀ g, v'.ownBlock = some g → v.ownBlock = some g ∨ w.heap.size ≤ g := by
 obtain ⟨i0, hi, hz0, hz1, hz2⟩ := info_parts infoMsg
 obtain ⟨ka, kn, kc, hkv⟩ := hk
 obtain ⟨v', w', h1, h2, h3, h4⟩ := append_own (P := Tryz.prog) w 55 ty 62 i0 _ 10 120 Tryz.underlying55 hi hz0 hz1 hz2 (by kernel_rfl) (by decide) v A.length _ h ⟨g0, 0, none⟩ 1 1 (by decide) (msgA x.2.1 x.2.2).toList rfl (fun j u hj => by
   rw [add_lit, cell_of hb]
   match j, hj with
   | 0, hj => exact hj
   | 1, hj => exact hj
   | 2, hj => exact hj
   | 3, hj => exact hj
   | 4, hj => exact hj
   | 5, hj => exact hj
   | 6, hj => exact hj
   | 7, hj => exact hj
   | 8, hj => exact hj
   | 9, hj => exact hj
   | k + 10, hj => simp [msgA] at hj) (fun u hu => by
   rw [hkv] at hu
   simp only [msgA, List.mem_cons, List.not_mem_nil, or_false] at hu
   rcases hu with rfl | rfl | rfl | rfl | rfl | rfl | rfl | rfl | rfl | rfl <;> rfl) (by simp only [maxLen]; omega) (by omega)
 have hg : ∀ g, v'.ownBlock = some g → v.ownBlock = some g ∨ w.heap.size ≤ g := fun g hg => by
  rcases h4 with h4 | h4
  ·exact .inl (h4.symm.trans hg)
  ·rw [h4] at hg; cases hg; exact .inr (Nat.le_refl _)
 refine ⟨v', w', h1, ?_, h3, hg⟩
 have e : msgRow (A ++ [x]) = msgRow A ++ (msgA x.2.1 x.2.2).toList := by unfold msgRow; rw [List.flatMap_append]; simp
 rw [e, List.length_append, List.length_singleton]
 exact h2
structure RTm (W w : World) (g : Nat) (B : ByteArray) (bg : Nat) (I : List Nat) (A : List Rq) (iv lv : Value) : Prop where
 obj : w.heap[g]? = some (.cells #[.string B, .int .i64 (bg : Int), iv, lv] 85 (0, 0))
 ids : w.ownsRow W.heap.size 3 1 iv I.length (intN I)
 row : w.ownsRow W.heap.size 62 10 lv A.length (msgRow A)
theorem RTm.calm (h : RTm W w g B bg I A iv lv) (hc : Calm w w') : RTm W w' g B bg I A iv lv := ⟨heap_calm hc h.obj, own_calm h.ids hc, own_calm h.row hc⟩
theorem RTm.cells (h : RTm W w g B bg I A iv lv) : w.cell? ⟨g, 0, none⟩ = some (.string B) ∧ w.cell? ⟨g, 1, none⟩ = some (.int .i64 (bg : Int)) ∧ w.cell? ⟨g, 2, none⟩ = some iv ∧ w.cell? ⟨g, 3, none⟩ = some lv ∧ g < w.heap.size :=
 ⟨cell_of h.obj 0, cell_of h.obj 1, cell_of h.obj 2, cell_of h.obj 3, heap_lt h.obj⟩
theorem RTm.apart (h : RTm W w g B bg I A iv lv) : iv.ownBlock ≠ some g ∧ lv.ownBlock ≠ some g ∧ ∀ b, iv.ownBlock = some b → lv.ownBlock ≠ some b := by
 refine ⟨fun e => ?_, fun e => ?_, fun b e1 e2 => ?_⟩
 ·obtain ⟨c, hc⟩ := own_row h.ids e; rw [h.obj] at hc; simp at hc
 ·obtain ⟨c, hc⟩ := own_row h.row e; rw [h.obj] at hc; simp at hc
 ·obtain ⟨c, hc⟩ := own_row h.ids e1
  obtain ⟨d, hd⟩ := own_row h.row e2
  rw [hc] at hd; simp at hd
theorem RTm.text (h : RTm W w g B bg I A iv lv) (B2 : ByteArray) : RTm W (w.setCell ⟨g, 0, none⟩ (.string B2)) g B2 bg I A iv lv ∧ Keeps (fun b => b = g ∨ iv.ownBlock = some b ∨ lv.ownBlock = some b) w (w.setCell ⟨g, 0, none⟩ (.string B2)) := by
 obtain ⟨hi, hl, _⟩ := h.apart
 exact ⟨⟨heap_set h.obj 0 _, row_same h.ids (fun b hb => heap_set_other (fun e => hi (by rw [← e]; exact hb)) _ _), row_same h.row (fun b hb => heap_set_other (fun e => hl (by rw [← e]; exact hb)) _ _)⟩, (Keeps.refl (fun b => b = g ∨ iv.ownBlock = some b ∨ lv.ownBlock = some b) w).setCell (p := ⟨g, 0, none⟩) (.inl (.inl rfl)) _⟩
theorem RTm.id (h : RTm W w g B bg I A iv lv) (hW : W.heap.size ≤ w.heap.size) (hI : I.length ≤ 1000) (x : Nat) :
  ∃ iv2 w2, (Builtin.append_ #[69, 69] 69 #[iv, .slice (some ⟨w.heap.size, 0, none⟩) 1 1]).run Tryz.prog (w.alloc (.cells #[.int .i64 (x : Int)] 3)) = .ok iv2 w2 ∧ w2.heap[g]? = some (.cells #[.string B, .int .i64 (bg : Int), iv, lv] 85 (0, 0)) ∧
   RTm W (w2.setCell ⟨g, 2, none⟩ iv2) g B bg (I ++ [x]) A iv2 lv ∧ Keeps (fun b => b = g ∨ iv.ownBlock = some b ∨ lv.ownBlock = some b) w (w2.setCell ⟨g, 2, none⟩ iv2) ∧ ∀ b, iv2.ownBlock = some b → iv.ownBlock = some b ∨ w.heap.size ≤ b := by
 obtain ⟨hi, hl, ha⟩ := h.apart
 obtain ⟨iv2, w2, e1, e2, e3, e4⟩ := append_place (w.alloc (.cells #[.int .i64 (x : Int)] 3)) iv I x w.heap.size (row_zero (own_calm h.ids ((Calm.refl w).alloc _))) (heap_new _ _) (by omega) 69
 have hg := heap_lt h.obj
 have hk : Keeps (fun b => iv.ownBlock = some b) w w2 := ((Keeps.refl (fun b => iv.ownBlock = some b) w).alloc _).trans' e3
 have e5 : ∀ b, iv2.ownBlock = some b → iv.ownBlock = some b ∨ w.heap.size ≤ b := fun b hb => by
  rcases e4 b hb with h1 | h1
  ·exact .inl h1
  ·rw [World.size_alloc] at h1; exact .inr (by omega)
 have ho : w2.heap[g]? = some (.cells #[.string B, .int .i64 (bg : Int), iv, lv] 85 (0, 0)) := (hk.block g hg hi).trans h.obj
 have hne : ∀ b, iv2.ownBlock = some b → b ≠ g := fun b hb e => by
  rcases e5 b hb with h1 | h1
  ·exact hi (by rw [← e]; exact h1)
  ·omega
 refine ⟨iv2, w2, e1, ho, ⟨heap_set ho 2 _, ?_, ?_⟩, ?_, e5⟩
 ·refine row_same (row_base e2 (fun b hb => ?_)) (fun b hb => heap_set_other (hne b hb) _ _)
  rcases e5 b hb with h1 | h1
  ·exact (h.ids.lt b h1).1
  ·omega
 ·refine row_same (row_same h.row (fun b hb => hk.block b (h.row.lt b hb).2 (fun e => ha b e hb))) (fun b hb => heap_set_other (fun e => hl (by rw [← e]; exact hb)) _ _)
 ·exact (hk.mono (G := fun b => b = g ∨ iv.ownBlock = some b ∨ lv.ownBlock = some b) (fun b _ hb => .inr (.inl hb))).setCell (p := ⟨g, 2, none⟩) (.inl (.inl rfl)) _
theorem RTm.rec_ (h : RTm W w g B bg I A iv lv) (hW : W.heap.size ≤ w.heap.size) (hA : A.length ≤ 1000) (x : Rq) (hkx : ∃ a n c, x.2.2 = .slice a n c) :
  ∃ lv2 w2, (Builtin.append_ #[55, 55] 55 #[lv, .slice (some ⟨w.heap.size, 0, none⟩) 1 1]).run Tryz.prog (w.alloc (.cells (msgA x.2.1 x.2.2) 62)) = .ok lv2 w2 ∧ w2.heap[g]? = some (.cells #[.string B, .int .i64 (bg : Int), iv, lv] 85 (0, 0)) ∧
   RTm W (w2.setCell ⟨g, 3, none⟩ lv2) g B bg I (A ++ [x]) iv lv2 ∧ Keeps (fun b => b = g ∨ lv.ownBlock = some b) w (w2.setCell ⟨g, 3, none⟩ lv2) ∧ ∀ b, lv2.ownBlock = some b → lv.ownBlock = some b ∨ w.heap.size ≤ b := by
 obtain ⟨hi, hl, ha⟩ := h.apart
 obtain ⟨lv2, w2, e1, e2, e3, e4⟩ := append_msg (w.alloc (.cells (msgA x.2.1 x.2.2) 62)) lv A x w.heap.size hkx (row_zero (own_calm h.row ((Calm.refl w).alloc _))) (heap_new _ _) (by omega) 55
 have hg := heap_lt h.obj
 have hk : Keeps (fun b => lv.ownBlock = some b) w w2 := ((Keeps.refl (fun b => lv.ownBlock = some b) w).alloc _).trans' e3
 have e5 : ∀ b, lv2.ownBlock = some b → lv.ownBlock = some b ∨ w.heap.size ≤ b := fun b hb => by
  rcases e4 b hb with h1 | h1
  ·exact .inl h1
  ·rw [World.size_alloc] at h1; exact .inr (by omega)
 have ho : w2.heap[g]? = some (.cells #[.string B, .int .i64 (bg : Int), iv, lv] 85 (0, 0)) := (hk.block g hg hl).trans h.obj
 have hne : ∀ b, lv2.ownBlock = some b → b ≠ g := fun b hb e => by
  rcases e5 b hb with h1 | h1
  ·exact hl (by rw [← e]; exact h1)
  ·omega
 refine ⟨lv2, w2, e1, ho, ⟨heap_set ho 3 _, ?_, ?_⟩, ?_, e5⟩
 ·refine row_same (row_same h.ids (fun b hb => hk.block b (h.ids.lt b hb).2 (fun e => ha b hb e))) (fun b hb => heap_set_other (fun e => hi (by rw [← e]; exact hb)) _ _)
 ·refine row_same (row_base e2 (fun b hb => ?_)) (fun b hb => heap_set_other (hne b hb) _ _)
  rcases e5 b hb with h1 | h1
  ·exact (h.row.lt b h1).1
  ·omega
 ·exact (hk.mono (G := fun b => b = g ∨ lv.ownBlock = some b) (fun b _ hb => .inr hb)).setCell (p := ⟨g, 3, none⟩) (.inl (.inl rfl)) _
theorem made_zeros (w : World) (n : Nat) (hn : n ≤ 1024) : (Instr.makeSlice 149 (.int .i64 (n : Int)) (.int .i64 (n : Int))).run Tryz.prog w = .ok (.slice (some ⟨w.heap.size, 0, none⟩) n n) (w.alloc (.cells (madeCells #[Value.int .u8 0] n) 5)) ∧
  (convert 149 9 (.slice (some ⟨w.heap.size, 0, none⟩) n n)).run Tryz.prog (w.alloc (.cells (madeCells #[Value.int .u8 0] n) 5)) = .ok (.string (zerosB n)) (w.alloc (.cells (madeCells #[Value.int .u8 0] n) 5)) := by
 obtain ⟨i0, hi, hz0, hz1, hz2⟩ := info_parts infoByte
 have hmk := run_make (P := Tryz.prog) w 149 5 i0 _ Tryz.underlying149 hi hz0 .i64 .i64 n n (by omega) (Int.le_refl _) (by rw [hz2]; omega) (by omega)
 simp only [hz1, Int.toNat_natCast, Nat.mul_one] at hmk
 have hback := conv_string (P := Tryz.prog) _ 149 9 5 Tryz.underlying149 Tryz.underlying5 Tryz.underlying9 (oc.made_bytes w n) n
 rw [List.length_replicate] at hback
 exact ⟨hmk, hback⟩
theorem RTm.done {m : MsgS} {kv : Value} (h : RTm W w' g B bg (A.map (·.1) ++ [idP B2.size m]) (A ++ [(idP B2.size m, m, kv)]) iv lv) (hg : W.heap.size ≤ g) (hA : A.length < 1000) (hm : ∀ x ∈ A, StrsAt W x.2.2 x.2.1.keys ∧ x.2.1.keys.length ≤ 1000000) (hk : StrsAt W kv m.keys) (hkl : m.keys.length ≤ 1000000) :
  RT W w' g B bg (A ++ [(idP B2.size m, m, kv)]) iv lv := by
 have e : A.map (·.1) ++ [idP B2.size m] = (A ++ [(idP B2.size m, m, kv)]).map (·.1) := by rw [List.map_append]; rfl
 have h1 := h.ids
 rw [e, List.length_map] at h1
 refine ⟨h.obj, h1, h.row, hg, by rw [List.length_append, List.length_singleton]; omega, fun x hx => ?_⟩
 rcases List.mem_append.1 hx with hx | hx
 ·exact hm x hx
 ·rw [List.mem_singleton] at hx; subst hx; exact ⟨hk, hkl⟩
end
section
variable {W w w' w2 : World} {t t' p n g c k bg : Nat} {S S' : TS} {G G' : Nat → Prop} {B B2 : ByteArray} {A : List Rq} {iv lv iv2 lv2 : Value}
theorem Py.begin_ (h : Py W t p g c k S G B A iv lv w) : Calls Tryz.prog 31 #[ptrTo t] w fun e w' => e = .returned (.int .i64 (S.R.start : Int)) ∧ w = w' := by
 obtain ⟨n, h1, _⟩ := h.tp
 exact Begin_any w h1
theorem Py.end_ (h : Py W t p g c k S G B A iv lv w) : Calls Tryz.prog 27 #[ptrTo t] w fun e w' => e = .returned (.int .i64 (B.size : Int)) ∧ w = w' := by
 obtain ⟨n, h1, _⟩ := h.tp
 rw [h.size]
 exact End_any w h1
theorem Py.synced_ (h : Py W t p g c k S G B A iv lv w) : Calls Tryz.prog 46 #[ptrTo t] w fun e w' => e = .returned (.int .i64 (S.R.synced : Int)) ∧ w = w' := by
 obtain ⟨n, h1, _⟩ := h.tp
 exact Synced_any w h1
theorem Py.cost_ (h : Py W t p g c k S G B A iv lv w) (m : MsgS) (kv : Value) (hm : Fair w m kv) : Calls Tryz.prog 28 #[ptrTo t, .agg (msgA m kv)] w fun e w' => e = .returned (.int .i64 (costP B.size m : Int)) ∧ Calm w w' := by
 obtain ⟨n, h1, _⟩ := h.tp
 rw [h.size]
 exact Cost_any m kv w h1 hm
theorem Py.end_ok (h : Py W t p g c k S G B A iv lv w) : B.size % 1024 = 0 ∨ B.size % 1024 + 3 ≤ 1024 := by
 obtain ⟨n, h1, _⟩ := h.tp
 rw [h.size]
 exact h1.end_ok
theorem Py.ids_ (h : Py W t p g c k S G B A iv lv w) (hk : k ≤ 500) (a : Int) : Calls Tryz.prog 36 #[ptrTo t, .int .i64 a] w fun e w' => ∃ v, e = .returned v ∧ (∃ x y z, v = .slice x y z) ∧ IntsAt w' v ((fromR A S.R.start a).map fun x => (x.1 : Int)) ∧ Calm w w' := by
 obtain ⟨n, h1, _⟩ := h.tp
 have hf := h.fin
 have hfew := h.few
 have hle := fromR_le A S.R.start a
 refine (Ids_any a w h1 (by omega)).mono ?_
 rintro e w' ⟨sa, cap, rfl, h2, h3⟩
 rw [h.from_ a, List.length_map, List.map_map] at h2
 rw [h.from_ a, List.length_map]
 have h4 := own_ints (l := (fromR A S.R.start a).map (·.1)) (by rw [List.length_map]; exact h2) (by rw [List.length_map]; omega)
 rw [List.map_map] at h4
 exact ⟨_, rfl, ⟨_, _, _, rfl⟩, h4, h3⟩
theorem Py.from__ (h : Py W t p g c k S G B A iv lv w) (hk : k ≤ 500) (a : Int) : Calls Tryz.prog 51 #[ptrTo g, .int .i64 a] w fun e w' => ∃ x y, e = .returned (.slice x (fromR A S.R.start a).length y) ∧ IntsAt w' (.slice x (fromR A S.R.start a).length y) ((fromR A S.R.start a).map fun x => (x.1 : Int)) ∧ Calm w w' := by
 have hfew := h.few
 have hle := fromR_le A S.R.start a
 refine (rFrom_any a h.rt).mono ?_
 rintro e w' ⟨sa, cap, rfl, h2, h3⟩
 have h4 := own_ints (l := (fromR A S.R.start a).map (·.1)) (by rw [List.length_map]; exact h2) (by rw [List.length_map]; omega)
 rw [List.map_map] at h4
 exact ⟨sa, cap, rfl, h4, h3⟩
theorem ints_eq {v u : Value} {l : List Int} (h1 : IntsAt w v l) (h2 : IntsAt w u l) : Calls Tryz.prog 35 #[v, u] w fun e w' => e = .returned (.bool true) ∧ Calm w w' := by
 refine (Ints_any v u l l w h1 h2).mono ?_
 rintro e w2 ⟨rfl, h2⟩
 exact ⟨by rw [decide_eq_true rfl], h2⟩
def lastB (l : List Rq) : Int := match l.getLast? with | some x => x.2.1.born | none => 0
theorem Py.all_ (h : Py W t p g c k S G B A iv lv w) : S.recs = (fromR A S.R.start 0).map numR := by
 rw [← h.from_ 0]
 exact (List.filter_eq_self.2 (fun x _ => decide_eq_true (Int.natCast_nonneg _))).symm
theorem Py.last_ (h : Py W t p g c k S G B A iv lv w) : Calls Tryz.prog 53 #[ptrTo t] w fun e w' => e = .returned (.int .i64 (lastB (fromR A S.R.start 0))) ∧ w = w' := by
 obtain ⟨n, h1, _⟩ := h.tp
 refine (Last_any w h1).mono ?_
 rintro e w' ⟨rfl, h2⟩
 refine ⟨?_, h2⟩
 rw [h.all_, List.getLast?_map]
 unfold lastB
 cases (fromR A S.R.start 0).getLast? <;> rfl
theorem Py.next_ (h : Py W t p g c k S G B A iv lv w) (hk : k ≤ 500) (a : Int) : Calls Tryz.prog 52 #[ptrTo t, .int .i64 a] w fun e w' => e = .returned (.tuple (match fromR A S.R.start a with | x :: _ => #[.int .i64 (x.1 : Int), .bool true] | [] => #[.int .i64 0, .bool false])) ∧ Calm w w' := by
 obtain ⟨n, h1, _⟩ := h.tp
 have hf := h.fin
 refine (Next_any a w h1 (by omega)).mono ?_
 rintro e w' ⟨rfl, h2⟩
 refine ⟨?_, h2⟩
 unfold nextOf
 rw [h.from_ a]
 cases fromR A S.R.start a <;> rfl
theorem Py.mem (h : Py W t p g c k S G B A iv lv w) {x : Rq} : numR x ∈ S.recs ↔ ∃ y ∈ A, S.R.start ≤ y.1 ∧ numR y = numR x := by
 rw [h.recs, List.mem_map]
 constructor
 ·rintro ⟨y, hy, e⟩
  rw [List.mem_filter, decide_eq_true_eq] at hy
  exact ⟨y, hy.1, hy.2, e⟩
 ·rintro ⟨y, h1, h2, e⟩
  exact ⟨y, List.mem_filter.2 ⟨h1, decide_eq_true h2⟩, e⟩
theorem Py.uniq (h : Py W t p g c k S G B A iv lv w) {i j : Nat} (hi : i < A.length) (hj : j < A.length) (e : A[i].1 = A[j].1) : i = j := by
 have hp := List.pairwise_iff_getElem.1 h.rise
 rcases Nat.lt_trichotomy i j with h1 | h1 | h1
 ·have := hp i j hi hj h1; omega
 ·exact h1
 ·have := hp j i hj hi h1; omega
theorem Py.found (h : Py W t p g c k S G B A iv lv w) {i : Nat} (hi : i < A.length) (hs : S.R.start ≤ A[i].1) : Calls Tryz.prog 48 #[ptrTo g, .int .i64 (A[i].1 : Int)] w fun e w' => e = .returned (.int .i64 (i : Int)) ∧ Calm w w' := by
 refine (rFind_any _ h.rt).mono ?_
 rintro e w' ⟨⟨j, hj, h1, _, rfl⟩ | ⟨h1, _⟩, h2⟩
 ·have : j = i := h.uniq hj hi (by omega)
  subst this
  exact ⟨rfl, h2⟩
 ·exact absurd ⟨rfl, by omega⟩ (h1 _ (List.getElem_mem hi))
theorem Py.reads (h : Py W t p g c k S G B A iv lv w) {i : Nat} (hi : i < A.length) (hs : S.R.start ≤ A[i].1) : Calls Tryz.prog 34 #[ptrTo t, .int .i64 (A[i].1 : Int)] w fun e w' => Calm w w' ∧ ∃ kv, e = .returned (.tuple #[.agg (msgA A[i].2.1 kv), .int .i64 0]) ∧ StrsAt w' kv A[i].2.1.keys := by
 obtain ⟨n, hT, hn⟩ := h.tp
 have hm : numR A[i] ∈ S.recs := h.mem.2 ⟨A[i], List.getElem_mem hi, hs, rfl⟩
 have hri := hT.rises
 refine (Read_any (A[i].1 : Int) w hT h.able.alive).mono ?_
 rintro e w' ⟨hc, ⟨q1, q2, _⟩ | ⟨_, q2, _⟩ | ⟨y, q1, q2, kv, rfl, q3⟩⟩
 ·omega
 ·exact absurd rfl (q2 _ hm)
 ·have h1 := rec_mem hri q1
  have h2 := rec_mem hri hm
  rw [q2] at h1
  have h3 : y = numR A[i] := Option.some.inj (h1.symm.trans h2)
  subst h3
  exact ⟨hc, kv, rfl, q3⟩
theorem Py.sized (h : Py W t p g c k S G B A iv lv w) {i : Nat} (hi : i < A.length) (hs : S.R.start ≤ A[i].1) : Calls Tryz.prog 30 #[ptrTo t, .int .i64 (A[i].1 : Int)] w fun e w' => e = .returned (.int .i64 ((recB A[i].2.1).size : Int)) ∧ w = w' := by
 obtain ⟨n, hT, hn⟩ := h.tp
 have hm : numR A[i] ∈ S.recs := h.mem.2 ⟨A[i], List.getElem_mem hi, hs, rfl⟩
 have h2 := rec_mem hT.rises hm
 have h3 : sizeOf' S.recs (A[i].1 : Int) = (recB A[i].2.1).size := by unfold sizeOf'; rw [show ((A[i].1 : Nat) : Int) = ((numR A[i]).1 : Int) from rfl, h2]; rfl
 have := Size_any (A[i].1 : Int) w hT
 rwa [h3] at this
theorem Py.same_ (h : Py W t p g c k S G B A iv lv w) {x : Rq} (hx : x ∈ A) {kv : Value} (hw : Calm W w') (hk : StrsAt w' kv x.2.1.keys) : Calls Tryz.prog 37 #[.agg (msgA x.2.1 kv), .agg (msgA x.2.1 x.2.2)] w' fun e w2 => e = .returned (.bool true) ∧ Calm w' w2 := by
 obtain ⟨h1, h2⟩ := h.rt.msgs x hx
 refine (rSame_any x.2.1 x.2.1 kv x.2.2 w' hk (h1.calm hw) h2 h2).mono ?_
 rintro e w2 ⟨rfl, h3⟩
 exact ⟨by rw [decide_eq_true rfl], h3⟩
theorem RT.rec_ (h : RT W w g B bg A iv lv) {i : Nat} (hi : i < A.length) : ∃ b cap, lv = .slice (some ⟨b, 0, none⟩) A.length cap ∧ A.length ≤ cap ∧ b < w.heap.size ∧ ∀ j u, (msgA A[i].2.1 A[i].2.2)[j]? = some u → w.cell? ⟨b, i * 10 + j, none⟩ = some u := by
 have hr := h.row
 rcases hr.2 with ⟨rfl, hn⟩ | ⟨b, cap, cur, rfl, hb, hg, hnc, hcm, hcs, htake⟩
 ·omega
 ·refine ⟨b, cap, rfl, hnc, heap_lt hg, fun j u hj => ?_⟩
  have := hr.cells (g := b) rfl (i * 10 + j) u (by
   have hj10 : j < 10 := by
    have := Array.getElem?_eq_some_iff.1 hj
    obtain ⟨h1, _⟩ := this
    exact h1
   unfold msgRow
   have e1 : (A.flatMap fun x => (msgA x.2.1 x.2.2).toList) = ((A.take i).flatMap fun x => (msgA x.2.1 x.2.2).toList) ++ ((msgA A[i].2.1 A[i].2.2).toList ++ ((A.drop (i + 1)).flatMap fun x => (msgA x.2.1 x.2.2).toList)) := by
    conv => lhs; rw [← List.take_append_drop i A, List.drop_eq_getElem_cons hi]
    rw [List.flatMap_append, List.flatMap_cons]
   have e2 : ((A.take i).flatMap fun x => (msgA x.2.1 x.2.2).toList).length = i * 10 := by
    show (msgRow (A.take i)).length = _
    rw [msgRow_len, List.length_take]; congr 1; omega
   rw [e1, List.getElem?_append_right (by omega), e2, show i * 10 + j - i * 10 = j by omega, List.getElem?_append_left (by exact hj10)]
   rw [← Array.getElem?_toList] at hj
   exact hj)
  rw [add_lit] at this
  simpa using this
end
section
variable {W w w' w2 : World} {t t' p n g c k bg : Nat} {S S' : TS} {G G' : Nat → Prop} {B B2 : ByteArray} {A : List Rq} {iv lv iv2 lv2 : Value}
abbrev RTc (w' : World) (g : Nat) (B : ByteArray) (bg : Nat) (iv lv : Value) : Prop :=
 w'.cell? ⟨g, 0, none⟩ = some (.string B) ∧ w'.cell? ⟨g, 1, none⟩ = some (.int .i64 (bg : Int)) ∧ w'.cell? ⟨g, 2, none⟩ = some iv ∧ w'.cell? ⟨g, 3, none⟩ = some lv ∧ g < w'.heap.size
abbrev RecC (w' : World) (b i : Nat) (m : MsgS) (kv : Value) : Prop :=
 w'.cell? ⟨b, i * 10, none⟩ = some (.int .i64 m.kind) ∧ w'.cell? ⟨b, i * 10 + 1, none⟩ = some (.int .i64 m.queue) ∧ w'.cell? ⟨b, i * 10 + 2, none⟩ = some (.int .i64 m.due) ∧ w'.cell? ⟨b, i * 10 + 3, none⟩ = some (.int .i64 m.retry) ∧ w'.cell? ⟨b, i * 10 + 4, none⟩ = some (.int .i64 m.ref) ∧
 w'.cell? ⟨b, i * 10 + 5, none⟩ = some (.int .i64 m.born) ∧ w'.cell? ⟨b, i * 10 + 6, none⟩ = some (.string m.topic) ∧ w'.cell? ⟨b, i * 10 + 7, none⟩ = some (.string m.tag) ∧ w'.cell? ⟨b, i * 10 + 8, none⟩ = some (.string m.body) ∧ w'.cell? ⟨b, i * 10 + 9, none⟩ = some kv ∧ b < w'.heap.size
theorem RecC.of {b i : Nat} {m : MsgS} {kv : Value} (hb : b < w.heap.size) (h : ∀ j u, (msgA m kv)[j]? = some u → w.cell? ⟨b, i * 10 + j, none⟩ = some u) (hc : Calm w w') : RecC w' b i m kv := by
 have h2 : ∀ j u, (msgA m kv)[j]? = some u → w'.cell? ⟨b, i * 10 + j, none⟩ = some u := fun j u hj => (hc.cell (p := ⟨b, i * 10 + j, none⟩) hb).trans (h j u hj)
 exact ⟨h2 0 _ rfl, h2 1 _ rfl, h2 2 _ rfl, h2 3 _ rfl, h2 4 _ rfl, h2 5 _ rfl, h2 6 _ rfl, h2 7 _ rfl, h2 8 _ rfl, h2 9 _ rfl, Nat.lt_of_lt_of_le hb hc.size⟩
theorem lastB_snoc {l : List Rq} {n : Nat} (hn : n < l.length) : lastB (l.take (n + 1)) = l[n].2.1.born := by
 unfold lastB
 rw [List.take_succ_eq_append_getElem hn, List.getLast?_concat]
theorem fromR_at {a : Int} {n : Nat} (hn : n < (fromR A bg a).length) : ∃ (i : Nat) (hi : i < A.length), bg ≤ A[i].1 ∧ (fromR A bg a)[n] = A[i] := by
 have h1 := List.getElem_mem hn
 unfold fromR at h1
 rw [List.mem_filter, Bool.and_eq_true, decide_eq_true_eq, decide_eq_true_eq] at h1
 obtain ⟨h2, _, h3⟩ := h1
 obtain ⟨i, hi, e⟩ := List.getElem_of_mem h2
 exact ⟨i, hi, by rw [e]; exact h3, e.symm⟩
set_option maxHeartbeats 16000000 in
theorem has_any (h : Py W t p g c k S G B A iv lv w) (hk : k ≤ 500) : Calls Tryz.prog 50 #[ptrTo t, ptrTo g] w fun e w' => e = .returned (.bool true) ∧ Calm w w' := by
 have H := box h
 have hfrom := box (h.from__ hk 0)
 obtain ⟨ia, inn, ic, rfl⟩ := row_slice h.rt.ids
 obtain ⟨la, ln, lc, rfl⟩ := row_slice h.rt.row
 clear h
 go_enter Tryz.func50, Tryz.ntmps50
 go_wp2_with fail
 refine hfrom.out.mono ?_
 rintro e w1 ⟨fa, fc, rfl, hids, hc1⟩
 have HI := box hids
 have C1 := box hc1
 have H1 := box (H.out.calm hc1)
 clear hids hc1 hfrom
 have hcs := box (fun W' (hc : Calm w1 W') => ((H1.out.calm hc).rt.cells))
 obtain ⟨c0, c1, c2, c3, clt⟩ := hcs.out w1 (Calm.refl _)
 go_upto_region 2 with fail
 go_region_held3 (fun w' => RTc w' g B S.R.start (.slice ia inn ic) (.slice la ln lc)) (first | go_keep | exact hcs.out _ (by (repeat' (first | (with_reducible exact Calm.refl _) | (with_reducible assumption) | (with_reducible refine Calm.drew ?_) | (with_reducible refine Calm.alloc ?_ _) | (with_reducible refine Calm.trans ?_ (by assumption)))))) (first
  | (go_at_call 31; refine ((H1.out.calm (by (repeat' (first | (with_reducible exact Calm.refl _) | (with_reducible assumption) | (with_reducible refine Calm.drew ?_) | (with_reducible refine Calm.alloc ?_ _) | (with_reducible refine Calm.trans ?_ (by assumption)))))).begin_).mono ?_; rintro e w5 ⟨rfl, rfl⟩)
  | (go_at_call 27; refine ((H1.out.calm (by (repeat' (first | (with_reducible exact Calm.refl _) | (with_reducible assumption) | (with_reducible refine Calm.drew ?_) | (with_reducible refine Calm.alloc ?_ _) | (with_reducible refine Calm.trans ?_ (by assumption)))))).end_).mono ?_; rintro e w5 ⟨rfl, rfl⟩)
  | (go_at_call 36; refine ((H1.out.calm (by (repeat' (first | (with_reducible exact Calm.refl _) | (with_reducible assumption) | (with_reducible refine Calm.drew ?_) | (with_reducible refine Calm.alloc ?_ _) | (with_reducible refine Calm.trans ?_ (by assumption)))))).ids_ hk 0).mono ?_; rintro e w6 ⟨_, rfl, ⟨xa, xn, xc, rfl⟩, hi6, hc6⟩)
  | (go_at_call 35; refine (ints_eq (hi6.calm (by (repeat' (first | (with_reducible exact Calm.refl _) | (with_reducible assumption) | (with_reducible refine Calm.drew ?_) | (with_reducible refine Calm.alloc ?_ _) | (with_reducible refine Calm.trans ?_ (by assumption)))))) (HI.out.calm (by (repeat' (first | (with_reducible exact Calm.refl _) | (with_reducible assumption) | (with_reducible refine Calm.drew ?_) | (with_reducible refine Calm.alloc ?_ _) | (with_reducible refine Calm.trans ?_ (by assumption))))))).mono ?_; rintro e w7 ⟨rfl, hc7⟩))
 have C17 := box (show Calm w1 w7 by (repeat' (first | (with_reducible exact Calm.refl _) | (with_reducible assumption) | (with_reducible refine Calm.drew ?_) | (with_reducible refine Calm.alloc ?_ _) | (with_reducible refine Calm.trans ?_ (by assumption)))))
 have C7 := box (C1.out.trans C17.out)
 have H7 := box (H1.out.calm C17.out)
 have HI7 := box (HI.out.calm C17.out)
 have Hlast := box (fun W' (hc : Calm w7 W') => (H7.out.calm hc).last_)
 obtain ⟨L, hL⟩ : ∃ L, fromR A S.R.start 0 = L := ⟨_, rfl⟩
 have HA := box (show ∀ (n : Nat) (hn : n < L.length), ∃ (i : Nat) (hi : i < A.length), S.R.start ≤ A[i].1 ∧ L[n] = A[i] from by subst hL; exact fun n hn => fromR_at hn)
 have hLlen : L.length ≤ 500 := by have h1 := fromR_le A S.R.start 0; have h2 := H7.out.few; rw [hL] at h1; omega
 rw [hL] at HI7 Hlast ⊢
 clear hcs hL c0 c1 c2 c3 clt hi6 hc6 hc7 HI C1 H1 C17 H
 go_wp2_with fail
 go_loopw [6, 40] (fun lv iv wr => ∃ n : Nat, n ≤ L.length ∧ iv = .int .i64 (n : Int) ∧ lv = .int .i64 (lastB (L.take n)) ∧ Box (Calm w7 wr)) (fun _ iv _ => L.length - (intOf iv).toNat)
 case atStart => exact ⟨0, Nat.zero_le _, rfl, rfl, box (Calm.refl _)⟩
 case round =>
  obtain ⟨n, hn, rfl, rfl, HC⟩ := hrel
  have HR := box (H7.out.calm HC.out)
  by_cases hnl : n < L.length
  ·obtain ⟨i, hi, hsi, hLi⟩ := HA.out n hnl
   obtain ⟨qa, qc, hq, _, hcell⟩ := HI7.out.calm HC.out
   simp only [List.length_map, Value.slice.injEq] at hq
   obtain ⟨rfl, _, rfl⟩ := hq
   obtain ⟨qb, qo, rfl, hqb, d0⟩ := hcell n (by rw [List.length_map]; exact hnl)
   rw [List.getElem_map, hLi] at d0
   have hread := box (HR.out.reads hi hsi)
   have hfind := box (fun W' (hc : Calm wr W') => (HR.out.calm hc).found hi hsi)
   have hrec := box (HR.out.rt.rec_ hi)
   have hsame := box (fun kv W' (hc : Calm W W') => HR.out.same_ (w' := W') (kv := kv) (List.getElem_mem hi) hc)
   have hlast := box (lastB_snoc hnl)
   rw [hLi] at hlast
   have hkeys := box (HR.out.rt.msgs _ (List.getElem_mem hi)).1
   obtain ⟨⟨xn, xm, xkv⟩, hx⟩ : ∃ x, A[i] = x := ⟨_, rfl⟩
   rw [hx] at d0 hread hfind hrec hsame hlast hkeys
   simp only at hread hrec hsame hlast hkeys d0
   obtain ⟨xa, xcap, rfl, _⟩ := hkeys.out.uni
   clear hcell hx hsi hLi
   go_wp2_with fail
   refine hread.out.mono ?_
   rintro e w9 ⟨hc9, kv', rfl, hkv'⟩
   have Hkv := box hkv'
   obtain ⟨ya, ycap, rfl, _⟩ := hkv'.uni
   obtain ⟨wa, hwa⟩ : ∃ wa, w9.alloc (.cells (msgA xm (.slice ya xm.keys.length ycap)) 62) = wa := ⟨_, rfl⟩
   have Ja := box (show wa.heap[w9.heap.size]? = some (.cells (msgA xm (.slice ya xm.keys.length ycap)) 62 (0, 0)) by rw [← hwa]; exact heap_new w9 _)
   have Ca := box (show Calm wr wa by rw [← hwa]; exact hc9.trans ((Calm.refl w9).alloc _))
   have Cb := box (show Calm w9 wa by rw [← hwa]; exact (Calm.refl w9).alloc _)
   clear hkv' hc9 hread d0
   go_upto_region 9 with fail
   (try rw [hwa])
   obtain ⟨rb, rcap, hrl, hrcap, hrb, hrcell⟩ := hrec.out
   simp only [Value.slice.injEq] at hrl
   obtain ⟨rfl, rfl, rfl⟩ := hrl
   have hcs := box (fun W' (hc : Calm wa W') => (show RecC W' rb i xm (.slice xa xm.keys.length xcap) from RecC.of hrb hrcell (Ca.out.trans hc)))
   have hct := box (fun W' (hc : Calm wa W') => (HR.out.calm (Ca.out.trans hc)).rt.cells)
   obtain ⟨c0, c1, c2, c3, clt⟩ := hct.out wa (Calm.refl _)
   obtain ⟨r0, r1, r2, r3, r4, r5, r6, r7, r8, r9, rlt⟩ := hcs.out wa (Calm.refl _)
   clear hrcell hrec
   have hS := box (fun W' (hc : Calm wa W') => (show Box (RTc W' g B S.R.start (.slice ia inn ic) (.slice (some ⟨rb, 0, none⟩) A.length lc)) ∧ Box (RecC W' rb i xm (.slice xa xm.keys.length xcap)) from ⟨box (hct.out W' hc), box (hcs.out W' hc)⟩))
   refine wp_region_held_drew (S := fun w' => Box (RTc w' g B S.R.start (.slice ia inn ic) (.slice (some ⟨rb, 0, none⟩) A.length lc)) ∧ Box (RecC w' rb i xm (.slice xa xm.keys.length xcap))) (by kernel_rfl) (hS.out _ (Calm.refl wa).drew) (fun hHeld => ?_)
   clear c0 c1 c2 c3 clt r0 r1 r2 r3 r4 r5 r6 r7 r8 r9 rlt
   ((refine' wpAnyH_take (i := 0) (v := _) rfl (by kernel_rfl) (by kernel_rfl) (by kernel_rfl) (fun _ _ _ h => h) (Or.inl ⟨by rfl, ?y1⟩) ‹_› ?r1; (case y1 => (intro w hSw; (try dsimp only at hSw); go_simp <;> with_reducible rfl))); (refine' wpAnyH_take (i := 1) (v := _) rfl (by kernel_rfl) (by kernel_rfl) (by kernel_rfl) (fun _ _ _ h => h) (Or.inl ⟨by rfl, ?y2⟩) ‹_› ?r2; (case y2 => (intro w hSw; (try dsimp only at hSw); go_simp <;> with_reducible rfl))); (refine' wpAnyH_take (i := 2) (v := _) rfl (by kernel_rfl) (by kernel_rfl) (by kernel_rfl) (fun _ _ _ h => h) (Or.inl ⟨by rfl, ?y3⟩) ‹_› ?r3; (case y3 => (intro w hSw; (try dsimp only at hSw); go_simp <;> with_reducible rfl)); simp only [List.getElem_toArray, List.getElem_cons_succ, List.getElem_cons_zero, Act.put, List.setIfInBounds_toArray, List.set_cons_zero, List.set_cons_succ]))
   ((refine' wpAnyH_take (i := 3) (v := _) rfl (by kernel_rfl) (by kernel_rfl) (by kernel_rfl) (fun _ _ _ h => h) (Or.inl ⟨by rfl, ?y4⟩) ‹_› ?r4; (case y4 => (intro w hSw; obtain ⟨⟨hSw1⟩, ⟨hSw2⟩⟩ := hSw; go_simp <;> with_reducible rfl)); simp only [List.getElem_toArray, List.getElem_cons_succ, List.getElem_cons_zero, Act.put, List.setIfInBounds_toArray, List.set_cons_zero, List.set_cons_succ]))
   ((refine' wpAnyH_take (i := 4) (v := _) rfl (by kernel_rfl) (by kernel_rfl) (by kernel_rfl) (fun _ _ _ h => h) (Or.inl ⟨by rfl, ?y5⟩) ‹_› ?r5; (case y5 => (intro w hSw; (try dsimp only at hSw); go_simp <;> with_reducible rfl))); (refine' wpAnyH_take (i := 5) (v := _) rfl (by kernel_rfl) (by kernel_rfl) (by kernel_rfl) (fun _ _ _ h => h) (Or.inl ⟨by rfl, ?y6⟩) ‹_› ?r6; (case y6 => (intro w hSw; (try dsimp only at hSw); go_simp <;> with_reducible rfl)); simp only [List.getElem_toArray, List.getElem_cons_succ, List.getElem_cons_zero, Act.put, List.setIfInBounds_toArray, List.set_cons_zero, List.set_cons_succ]))
   refine wpAnyH_ready (rs := [6, 9]) (by kernel_rfl) (by simp) ?_
   refine AllReadyH.cons rfl (fun K hK => ?g6) (AllReadyH.cons rfl (fun K hK => ?g9) AllReadyH.nil)
   case' g6 =>
    rw [if_pos (by rfl)]
    go_simp
    refine (hfind.out _ (Ca.out.trans ((Calm.refl wa).drew))).mono ?_
    rintro e w10 ⟨rfl, hb⟩
    have K10 := box (show Calm wa w10 from (Calm.refl wa).drew.trans hb)
    clear hb
    go_wp2_with fail
    refine hK.out _ _ (hS.out _ K10.out) (fun hHeld2 => ?_)
    clear hK K
    try simp only [List.getElem_toArray, List.getElem_cons_succ, List.getElem_cons_zero, Act.put, List.setIfInBounds_toArray, List.set_cons_zero, List.set_cons_succ]
    ((refine' wpAnyH_take (i := 7) (v := _) rfl (by kernel_rfl) (by kernel_rfl) (by kernel_rfl) (fun _ _ _ h => h) (Or.inl ⟨by rfl, ?y7⟩) ‹_› ?r7; (case y7 => (intro w hSw; (try dsimp only at hSw); go_simp <;> with_reducible rfl)); simp only [List.getElem_toArray, List.getElem_cons_succ, List.getElem_cons_zero, Act.put, List.setIfInBounds_toArray, List.set_cons_zero, List.set_cons_succ]))
    ((refine' wpAnyH_take (i := 8) (v := _) rfl (by kernel_rfl) (by kernel_rfl) (by kernel_rfl) (fun _ _ _ h => h) (Or.inl ⟨by rfl, ?y8⟩) ‹_› ?r8; (case y8 => (intro w hSw; obtain ⟨⟨hSw1⟩, ⟨hSw2⟩⟩ := hSw; go_simp <;> with_reducible rfl)); simp only [List.getElem_toArray, List.getElem_cons_succ, List.getElem_cons_zero, Act.put, List.setIfInBounds_toArray, List.set_cons_zero, List.set_cons_succ]))
    refine wpAnyH_ready (rs := [9]) (by kernel_rfl) (by simp) ?_
    refine AllReadyH.cons rfl (fun K hK => ?_) AllReadyH.nil
    rw [if_pos (by rfl)]
    go_simp
    refine hK.out _ _ (hS.out _ (K10.out.trans ((Calm.refl w10).alloc _))) (fun hHeld3 => ?_)
    clear hK K
    try simp only [List.getElem_toArray, List.getElem_cons_succ, List.getElem_cons_zero, Act.put, List.setIfInBounds_toArray, List.set_cons_zero, List.set_cons_succ]
    obtain ⟨wz, hwz⟩ : ∃ wz, w10.alloc (.cells zeroA 62) = wz := ⟨_, rfl⟩
    have Jz := box (show wz.heap[w10.heap.size]? = some (.cells zeroA 62 (0, 0)) by rw [← hwz]; exact heap_new w10 _)
    have Kz := box (show Calm wa wz by rw [← hwz]; exact K10.out.trans ((Calm.refl w10).alloc _))
    have hzb := K10.out.size
    obtain ⟨zb, hzbE⟩ : ∃ zb, w10.heap.size = zb := ⟨_, rfl⟩
    rw [hzbE] at Jz hzb ⊢
    rw [hwz] at hHeld3 ⊢
    clear hwz hzbE K10
   case' g9 =>
    rw [if_pos (by rfl)]
    go_simp
    refine hK.out _ _ (hS.out _ (((Calm.refl wa).drew).alloc _)) (fun hHeld2 => ?_)
    clear hK K
    try simp only [List.getElem_toArray, List.getElem_cons_succ, List.getElem_cons_zero, Act.put, List.setIfInBounds_toArray, List.set_cons_zero, List.set_cons_succ]
    refine wpAnyH_ready (rs := [6]) (by kernel_rfl) (by simp) ?_
    refine AllReadyH.cons rfl (fun K hK => ?_) AllReadyH.nil
    rw [if_pos (by rfl)]
    go_simp
    refine (hfind.out _ (Ca.out.trans (((Calm.refl wa).drew).alloc _))).mono ?_
    rintro e wz ⟨rfl, hb⟩
    have Jz := box (show wz.heap[wa.heap.size]? = some (.cells zeroA 62 (0, 0)) from heap_calm hb (heap_new wa.drew (.cells zeroA 62)))
    have Kz := box (show Calm wa wz from (((Calm.refl wa).drew).alloc _).trans hb)
    clear hb
    go_wp2_with fail
    refine hK.out _ _ (hS.out _ Kz.out) (fun hHeld3 => ?_)
    clear hK K
    try simp only [List.getElem_toArray, List.getElem_cons_succ, List.getElem_cons_zero, Act.put, List.setIfInBounds_toArray, List.set_cons_zero, List.set_cons_succ]
    ((refine' wpAnyH_take (i := 7) (v := _) rfl (by kernel_rfl) (by kernel_rfl) (by kernel_rfl) (fun _ _ _ h => h) (Or.inl ⟨by rfl, ?y9⟩) ‹_› ?r9; (case y9 => (intro w hSw; (try dsimp only at hSw); go_simp <;> with_reducible rfl)); simp only [List.getElem_toArray, List.getElem_cons_succ, List.getElem_cons_zero, Act.put, List.setIfInBounds_toArray, List.set_cons_zero, List.set_cons_succ]))
    ((refine' wpAnyH_take (i := 8) (v := _) rfl (by kernel_rfl) (by kernel_rfl) (by kernel_rfl) (fun _ _ _ h => h) (Or.inl ⟨by rfl, ?y10⟩) ‹_› ?r10; (case y10 => (intro w hSw; obtain ⟨⟨hSw1⟩, ⟨hSw2⟩⟩ := hSw; go_simp <;> with_reducible rfl)); simp only [List.getElem_toArray, List.getElem_cons_succ, List.getElem_cons_zero, Act.put, List.setIfInBounds_toArray, List.set_cons_zero, List.set_cons_succ]))
    obtain ⟨zb, hzbE⟩ : ∃ zb, wa.heap.size = zb := ⟨_, rfl⟩
    have hzb : wa.heap.size ≤ zb := Nat.le_of_eq hzbE
    rw [hzbE] at Jz ⊢
    clear hzbE
   all_goals
    have z0 := cell_of Jz.out 0
    have z1 := cell_of Jz.out 1
    have z2 := cell_of Jz.out 2
    have z3 := cell_of Jz.out 3
    have z4 := cell_of Jz.out 4
    have z5 := cell_of Jz.out 5
    have z6 := cell_of Jz.out 6
    have z7 := cell_of Jz.out 7
    have z8 := cell_of Jz.out 8
    have z9 := cell_of Jz.out 9
    have f0 := free_of Jz.out 0
    have f1 := free_of Jz.out 1
    have f2 := free_of Jz.out 2
    have f3 := free_of Jz.out 3
    have f4 := free_of Jz.out 4
    have f5 := free_of Jz.out 5
    have f6 := free_of Jz.out 6
    have f7 := free_of Jz.out 7
    have f8 := free_of Jz.out 8
    have f9 := free_of Jz.out 9
    have zlt := heap_lt Jz.out
    refine wpAnyH_ready (rs := [10]) (by kernel_rfl) (by simp) ?_
    refine AllReadyH.cons rfl (fun K hK => ?_) AllReadyH.nil
    rw [if_pos (by rfl)]
    go_simp
    have hput := put_msg Jz.out rfl (.int .i64 xm.kind) (.int .i64 xm.queue) (.int .i64 xm.due) (.int .i64 xm.retry) (.int .i64 xm.ref) (.int .i64 xm.born) (.string xm.topic) (.string xm.tag) (.string xm.body) (.slice xa xm.keys.length xcap)
    have hcal := calm_put_msg (Kz.out) hzb (.int .i64 xm.kind) (.int .i64 xm.queue) (.int .i64 xm.due) (.int .i64 xm.retry) (.int .i64 xm.ref) (.int .i64 xm.born) (.string xm.topic) (.string xm.tag) (.string xm.body) (.slice xa xm.keys.length xcap)
    refine hK.out _ _ (hS.out _ hcal) (fun hHeld4 => ?_)
    clear hK K
    try simp only [List.getElem_toArray, List.getElem_cons_succ, List.getElem_cons_zero, Act.put, List.setIfInBounds_toArray, List.set_cons_zero, List.set_cons_succ]
    refine wpAnyH_done (by kernel_rfl) ?_ _
    obtain ⟨wy, hwy⟩ : ∃ wy, ((((((((((wz.setCell ⟨zb, 0, none⟩ (.int .i64 xm.kind)).setCell ⟨zb, 1, none⟩ (.int .i64 xm.queue)).setCell ⟨zb, 2, none⟩ (.int .i64 xm.due)).setCell ⟨zb, 3, none⟩ (.int .i64 xm.retry)).setCell ⟨zb, 4, none⟩ (.int .i64 xm.ref)).setCell ⟨zb, 5, none⟩ (.int .i64 xm.born)).setCell ⟨zb, 6, none⟩ (.string xm.topic)).setCell ⟨zb, 7, none⟩ (.string xm.tag)).setCell ⟨zb, 8, none⟩ (.string xm.body)).setCell ⟨zb, 9, none⟩ (.slice xa xm.keys.length xcap)) = wy := ⟨_, rfl⟩
    rw [hwy] at hput hcal
    rw [hwy]
    have Jy := box hput
    have Ky := box hcal
    clear z0 z1 z2 z3 z4 z5 z6 z7 z8 z9
    clear f0 f1 f2 f3 f4 f5 f6 f7 f8 f9
    clear zlt hput hcal hwy hHeld hHeld2 hHeld3 hHeld4 Jz Kz hS hcs hct hrb hfind
    have Jx := box (heap_calm Ky.out Ja.out)
    have d0 := cell_of Jx.out 0
    have d1 := cell_of Jx.out 1
    have d2 := cell_of Jx.out 2
    have d3 := cell_of Jx.out 3
    have d4 := cell_of Jx.out 4
    have d5 := cell_of Jx.out 5
    have d6 := cell_of Jx.out 6
    have d7 := cell_of Jx.out 7
    have d8 := cell_of Jx.out 8
    have d9 := cell_of Jx.out 9
    have z0 := cell_of Jy.out 0
    have z1 := cell_of Jy.out 1
    have z2 := cell_of Jy.out 2
    have z3 := cell_of Jy.out 3
    have z4 := cell_of Jy.out 4
    have z5 := cell_of Jy.out 5
    have z6 := cell_of Jy.out 6
    have z7 := cell_of Jy.out 7
    have z8 := cell_of Jy.out 8
    have z9 := cell_of Jy.out 9
    have dlt := heap_lt Jx.out
    have zlt := heap_lt Jy.out
    have Hsame := box (hsame.out (.slice ya xm.keys.length ycap) wy (H7.out.owns.trans ((HC.out.trans (Ca.out.trans Ky.out)))) (Hkv.out.calm (Cb.out.trans Ky.out)))
    clear hsame
    go_wp2_with fail
    refine Hsame.out.mono ?_
    rintro e w12 ⟨rfl, hc12⟩
    have z5' := cell_of (heap_calm hc12 Jy.out) 5
    have zlt' := heap_lt (heap_calm hc12 Jy.out)
    have HC12 := box (HC.out.trans (Ca.out.trans (Ky.out.trans hc12)))
    clear d0 d1 d2 d3 d4 d5 d6 d7 d8 d9
    clear z0 z1 z2 z3 z4 z5 z6 z7 z8 z9
    clear dlt zlt hc12 Hsame
    go_wp2_with fail
    go_roundw
    case rel => exact ⟨n + 1, by omega, by go_num, by rw [hlast.out], HC12⟩
    case measure => simp [intOf]; omega
  ·obtain rfl : n = L.length := by omega
   have hl := box (Hlast.out wr HC.out)
   rw [List.take_length]
   go_wp2_with fail
   refine hl.out.mono ?_
   rintro e w8 ⟨rfl, rfl⟩
   go_wp2_with fail
   go_ret
   exact ⟨rfl, C7.out.trans HC.out⟩
end
end Go.Proofs.YtjpokaifbnkmhaaGreatDoor.tp
