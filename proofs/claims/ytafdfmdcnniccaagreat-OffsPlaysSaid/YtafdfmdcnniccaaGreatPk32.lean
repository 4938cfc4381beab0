/- OffsPlays: what its walk needs. -/
import Derived.Test.YtafdfmdcnniccaaGreatRows
import Derived.WalkKit
import Derived.ProofKit
import Derived.OpenShut
import Derived.Handy
import Derived.Deep.LoopGhost
import Derived.Lib.Hide
import Derived.Lib.Strings
import Derived.SizedLaws
import Derived.Maps.Own
import Derived.Maps.OwnOps
import Derived.Maps.OwnSet
import Derived.Maps.RangeWalk
import Derived.Deep.QuietTactic
import Derived.BigQuiet
import Derived.Deep.RegionHeld3
import Derived.Lib.ConvBytes
import Derived.Lib.AppendZeros
import Derived.Lib.AppendZerosOnto
import Derived.Lib.LazyBuf
import Derived.Shelf.Abstract
import Derived.LaidEql
import Derived.Lib.SliceRun
import Derived.StillTailTactics
import Derived.Deep.Slices
import Derived.Outline
import Derived.Laws.Cover1
import Derived.Deep.RegionLaw
import Derived.Deep.DeepCutAuto
import Derived.Deep.CutBlock
import Derived.Shelf.SlicesE.Clone
import Derived.Ground.SlgnProg
import Derived.Test.YtafdfmdcnniccaaGreatProg
import Derived.Shelf.Strings.Builder1
import Derived.Shelf.Small.Bits
import Derived.Shelf.Small.Wraps
import Derived.Shelf.Strings.BuilderF
import Derived.Shelf.Strings.BuilderK
import Derived.Shelf.Strconv.Itoa0
import Derived.Shelf.Sort.Plain
import Derived.Shelf.GgClosure.StringsIndexFunc
import Derived.Ground.GgwProg
import Derived.Shelf.GgClosure.StringsIndexFuncTop
import Derived.Shelf.GgClosure.StringsRunes
import Derived.Shelf.Strings.Prefix
import Derived.Shelf.Strings.BuilderCap
import Derived.Ground.Names2Prog
import Derived.Shelf.Slices.SearchI
import Derived.Shelf.Slices.In.SortNone
import Derived.Ground.SlgfProg
import Derived.Shelf.SlicesE.IndexFunc
import Derived.Shelf.SlicesE.DeleteFunc
import Derived.Lib.DecodeN
import Derived.Lib.Overlaps
import Derived.Laws.CopyOwn
import Derived.Laws.MakeOwn
import Derived.Lib.Builder
import Derived.Lib.AppendStr
import Derived.Laws.Rows
import Derived.Shelf.SlIter.Nil
import Derived.Ground.GgzProg
import Derived.Shelf.SortM.Plain
import Derived.Shelf.SortM.SortNone
import Derived.Ground.SlgmProg
import Derived.Laws.BitsLemmas
import Derived.Laws.ResultCell
import Derived.Laws.StructEq
import Derived.Laws.Cover3
import Derived.OwnWalk
import Derived.Deep.Upon
import Derived.Test.YtafdfmdcnniccaaGreatPk31
namespace Go.Proofs.YtafdfmdcnniccaaGreat.ofs
open Go.ChangeShapes Go.WideShapes Go.ChangeAt Go.RowKit
open Go.Proofs.YtafdfmdcnniccaaGreat.dk Go.Proofs.YtafdfmdcnniccaaGreat.nm Go.Proofs.YtafdfmdcnniccaaGreat.tp

set_option maxRecDepth 100000 in
set_option maxHeartbeats 4000000 in
theorem rightW_any (x : OffS) (w : World) (hs : x.group.size ≤ 100 ∧ x.topic.size ≤ 100) :
    Calls Tryz.prog 14 #[.agg (offA x)] w fun e w' => e = .returned (.int .i64 (rightO x)) ∧ Calm w w' := by
  obtain ⟨xg, xt, xq, xa⟩ := x
  unfold offA
  simp only at hs ⊢
  have hn0 := heap_new w (.cells #[.string xg, .string xt, .int .i64 xq, .int .i64 xa] 31)
  have HC0 := box ((Calm.refl w).alloc (.cells #[.string xg, .string xt, .int .i64 xq, .int .i64 xa] 31))
  have Hn := box hn0
  have hg := box (fun W => rGroup_any xg W (by unfold maxLen; omega))
  have ht := box (fun W => rTopic_any xt W (by unfold maxLen; omega))
  have Hr := box (show rightO ⟨xg, xt, xq, xa⟩ = if groupB xg = false ∨ topicB xt = false then 11 else if xq < 0 ∨ 3 ≤ xq then 13 else if xa < 0 ∨ 1099511627776 < xa then 2 else 0 from rfl)
  obtain ⟨r, hr⟩ : ∃ r, rightO ⟨xg, xt, xq, xa⟩ = r := ⟨_, rfl⟩
  rw [hr] at Hr ⊢
  obtain ⟨g, hgg⟩ : ∃ g, groupB xg = g := ⟨_, rfl⟩
  obtain ⟨t, htt⟩ : ∃ t, topicB xt = t := ⟨_, rfl⟩
  simp only [hgg] at hg Hr
  simp only [htt] at ht Hr
  have r0 := cell_of Hn.out 0
  have r1 := cell_of Hn.out 1
  have r2 := cell_of Hn.out 2
  have r3 := cell_of Hn.out 3
  have jlt := heap_lt Hn.out
  clear hr hgg htt hn0
  cases g
  · have Hr2 := box (show r = 11 by rw [Hr.out]; rfl)
    clear Hr
    go_enter Tryz.func14, Tryz.ntmps14
    go_wp2_with fail
    refine (hg.out _).mono ?_
    rintro e w1 ⟨rfl, rfl⟩
    go_wp2_with fail
    go_ret
    exact ⟨ret_int (by rw [Hr2.out]), HC0.out⟩
  cases t
  · have Hr2 := box (show r = 11 by rw [Hr.out]; rfl)
    clear Hr
    go_enter Tryz.func14, Tryz.ntmps14
    go_wp2_with fail
    refine (hg.out _).mono ?_
    rintro e w1 ⟨rfl, rfl⟩
    go_wp2_with fail
    refine (ht.out _).mono ?_
    rintro e w1 ⟨rfl, rfl⟩
    go_wp2_with fail
    go_ret
    exact ⟨ret_int (by rw [Hr2.out]), HC0.out⟩
  have Hr2 := box (show r = if xq < 0 ∨ 3 ≤ xq then 13 else if xa < 0 ∨ 1099511627776 < xa then 2 else 0 by rw [Hr.out, if_neg (by simp)])
  clear Hr
  go_enter Tryz.func14, Tryz.ntmps14
  go_wp2_with fail
  refine (hg.out _).mono ?_
  rintro e w1 ⟨rfl, rfl⟩
  go_wp2_with fail
  refine (ht.out _).mono ?_
  rintro e w1 ⟨rfl, rfl⟩
  by_cases h1 : xq < 0
  · go_wp2_with fail
    go_ret
    exact ⟨ret_int (by rw [Hr2.out, if_pos (.inl h1)]), HC0.out⟩
  by_cases h2 : 2 < xq
  · go_wp2_with fail
    go_ret
    exact ⟨ret_int (by rw [Hr2.out, if_pos (.inr (by omega))]), HC0.out⟩
  by_cases h3 : xa < 0
  · go_wp2_with fail
    go_ret
    exact ⟨ret_int (by rw [Hr2.out, if_neg (by omega), if_pos (.inl h3)]), HC0.out⟩
  by_cases h4 : 1099511627776 < xa
  · go_wp2_with fail
    go_ret
    exact ⟨ret_int (by rw [Hr2.out, if_neg (by omega), if_pos (.inr h4)]), HC0.out⟩
  · go_wp2_with fail
    go_ret
    exact ⟨ret_int (by rw [Hr2.out, if_neg (by omega), if_neg (by omega)]), HC0.out⟩
/-- A copy laid behind an empty row of one's own. -/
theorem append_clone (B : Nat) (w : World) (g : Nat) (v : Value) (N : List OffS) (hg : w.heap[g]? = some (.cells #[] 31 (0, 0))) (hB : B ≤ g) (hr : offRow 0 w v N) (hl : N.length ≤ 1000000) (ty : TypeId) :
    ∃ v' w', (Builtin.append_ #[22, 22] ty #[.slice (some ⟨g, 0, none⟩) 0 0, v]).run Tryz.prog w = .ok v' w' ∧ offRow B w' v' N ∧ Keeps (fun k => k = g) w w' ∧ ∀ k, v'.ownBlock = some k → k = g ∨ w.heap.size ≤ k := by
  obtain ⟨i0, hi, hz0, hz1, hz2⟩ := info_parts infoOff
  have hown : w.ownsRow B 31 4 (.slice (some ⟨g, 0, none⟩) 0 0) 0 [] := ⟨rfl, .inr ⟨g, 0, #[], rfl, hB, hg, Nat.le_refl _, Nat.zero_le _, rfl, rfl⟩⟩
  have hgw := heap_lt hg
  rcases hr.2 with ⟨rfl, hn⟩ | ⟨g', cap, cur, rfl, _, hg', hnc, hcm, hcs, htk⟩
  · have hN : N = [] := List.eq_nil_of_length_eq_zero hn
    subst hN
    refine ⟨_, w, ?_, hown, Keeps.refl _ _, fun k hk => by cases hk; exact .inl rfl⟩
    simp [Builtin.append_, run_underlying Tryz.underlying22, sizeOf, typeInfo, hi, Builtin.lenOf, Builtin.firstCells, storeCells]
  · by_cases h0 : N.length = 0
    · have hN : N = [] := List.eq_nil_of_length_eq_zero h0
      subst hN
      refine ⟨_, w, run_append_nothing w 22 22 ty 31 i0 Tryz.underlying22 hi (some ⟨g, 0, none⟩) 0 0 (Nat.le_refl _) (.slice (some ⟨g', 0, none⟩) 0 cap) (Src.ofSlice w Tryz.underlying22 ⟨g', 0, none⟩ 0 cap [] (by simp) (fun j u hj => by simp at hj) (fun u hu => absurd hu List.not_mem_nil)), hown, Keeps.refl _ _, fun k hk => by cases hk; exact .inl rfl⟩
    · obtain ⟨v', w', h1, h2, h3, h4⟩ := append_own (P := Tryz.prog) w 22 ty 31 i0 _ 4 48 Tryz.underlying22 hi hz0 hz1 hz2 (by kernel_rfl) (by decide) (.slice (some ⟨g, 0, none⟩) 0 0) 0 [] (row_zero hown) ⟨g', 0, none⟩ N.length cap (by omega) (N.flatMap encO) (encO_flat N) (fun j u hj => hr.cells (g := g') rfl j u hj) (encO_one N) (by simp only [maxLen]; omega) (by omega)
      have hgo : ∀ k, v'.ownBlock = some k → k = g ∨ w.heap.size ≤ k := fun k hk => by
        rcases h4 with h4 | h4
        · rw [h4] at hk; cases hk; exact .inl rfl
        · rw [h4] at hk; cases hk; exact .inr (Nat.le_refl _)
      refine ⟨v', w', h1, row_base (by simpa using h2) (fun k hk => by rcases hgo k hk with h | h <;> omega), h3.mono (fun b _ h => by cases h; rfl), hgo⟩
end Go.Proofs.YtafdfmdcnniccaaGreat.ofs

/- OffsPlays: its data, its steps. -/
namespace Go.Proofs.YtafdfmdcnniccaaGreat.oplay
open Go.ChangeShapes Go.WideShapes Go.ChangeAt Go.RowKit
open Go.Proofs.YtafdfmdcnniccaaGreat.dk Go.Proofs.YtafdfmdcnniccaaGreat.nm Go.Proofs.YtafdfmdcnniccaaGreat.tp Go.Proofs.YtafdfmdcnniccaaGreat.ofs

structure OpP where
  k : Int
  n : Int
  x : OffS
  keep : List Bool
  lack : Int
def opA (y : OpP) (kv : Value) : Array Value := #[.int .i64 y.k, .int .i64 y.n, .string y.x.group, .string y.x.topic, .int .i64 y.x.queue, .int .i64 y.x.at_, kv, .int .i64 y.lack]
structure OpIn (w : World) (kv : Value) (y : OpP) : Prop where
  keep : RowsAt BoolR 1 w kv y.keep
  n : y.n ≤ 9223372036854775807
def OpPR : Reads OpP := fun w cs y => ∃ kv, cs = (opA y kv).toList ∧ OpIn w kv y
theorem OpPR.lasts : OpPR.Lasts := fun _ _ _ _ ⟨kv, e, h⟩ hc => ⟨kv, e, h.keep.calm BoolR.lasts hc, h.n⟩
set_option maxRecDepth 100000 in
theorem opens_opp : Opens Tryz.prog 43 OpPR := fun H enc w base sp held fuel cs x h => by
  obtain ⟨xs, n, _, _, hlen, hxl, hg⟩ := DataW.trod_struct Tryz.underlying43 h
  rw [show Tryz.prog.cellsOf 43 = 8 by kernel_rfl] at hlen
  match cs, hlen with
  | [c0, c1, c2, c3, c4, c5, c6, c7], _ =>
    have hx : ∀ i, i < xs.length → ∃ y, xs[i]? = some y := fun i hi => ⟨_, List.getElem?_eq_getElem hi⟩
    simp only [List.size_toArray, List.length_cons, List.length_nil] at hxl
    have g0 := hg 0 _ rfl
    have g1 := hg 1 _ rfl
    have g2 := hg 2 _ rfl
    have g3 := hg 3 _ rfl
    clear hg
    obtain ⟨y0, e0⟩ := hx 0 (by omega)
    obtain ⟨y1, e1⟩ := hx 1 (by omega)
    obtain ⟨y2, e2⟩ := hx 2 (by omega)
    obtain ⟨y3, e3⟩ := hx 3 (by omega)
    rw [e0] at g0
    rw [e1] at g1
    rw [e2] at g2
    rw [e3] at g3
    obtain ⟨k, hk, _⟩ := opens_int Tryz.underlying3 _ _ _ _ _ _ _ _ _ g0
    obtain ⟨m, hm, _, hm2⟩ := opens_int Tryz.underlying3 _ _ _ _ _ _ _ _ _ g1
    obtain ⟨z, hz, _⟩ := olast.opens_off _ _ _ _ _ _ _ _ _ g2
    obtain ⟨ys, n2, _, _, hlen2, hyl, hg2⟩ := DataW.trod_struct Tryz.underlying41 g3
    simp only [List.size_toArray, List.length_cons, List.length_nil] at hyl
    have q0 := hg2 0 _ rfl
    have q1 := hg2 1 _ rfl
    clear hg2
    rw [List.getElem?_eq_getElem (by omega)] at q0 q1
    obtain ⟨keep, kv, hkv, hkr⟩ := opens_slice (c := 1) Tryz.underlying39 (by kernel_rfl) (by decide) (opens_bool Tryz.underlying4) _ _ _ _ _ _ _ _ _ q0
    obtain ⟨lack, hla, _⟩ := opens_int Tryz.underlying3 _ _ _ _ _ _ _ _ _ q1
    refine ⟨⟨k, m, z, keep, lack⟩, kv, ?_, hkr, hm2⟩
    have n1 : Tryz.prog.cellsOf 3 = 1 := by kernel_rfl
    have n3 : Tryz.prog.cellsOf 31 = 4 := by kernel_rfl
    have n4 : Tryz.prog.cellsOf 39 = 1 := by kernel_rfl
    have n5 : Tryz.prog.cellsOf 41 = 2 := by kernel_rfl
    simp [n1, n3, n4, n5, encO] at hk hm hz hkv hla
    obtain ⟨z1, z2, z3, z4⟩ := hz
    subst hk hm hkv hla z1 z2 z3 z4
    rfl
/-- Rows of offsets, and calls' blocks, stay as they are. -/
structure KeepR (x : Option Nat) (w w' : World) : Prop where
  row : ∀ (B : Nat) (z : Value) (Z : List OffS), offRow B w z Z → (∀ g, z.ownBlock = some g → x ≠ some g) → offRow B w' z Z
  op : ∀ (b : Nat) (cur : Array Value), w.heap[b]? = some (Obj.cells cur 43 (0, 0)) → w'.heap[b]? = some (Obj.cells cur 43 (0, 0))
theorem KeepR.calm {x : Option Nat} {w w' : World} (h : Calm w w') : KeepR x w w' := ⟨fun _ _ _ hr _ => own_calm hr h, fun _ _ hb => heap_calm h hb⟩
section
variable {W w w' : World} {k p o n : Nat} {D : DiskS} {lst SL : List OffS} {F : Nat → Prop} {v : Value}
theorem op_apart {b : Nat} {cur : Array Value} (h : DiskOk w p D F n) (hc : w.heap[b]? = some (.cells cur 43 (0, 0))) : ¬ F b := fun hf => by
  obtain ⟨mb, wv, h1, rfl⟩ := h.lies
  rcases hf with rfl | rfl | hf | hf
  · rw [h1.obj] at hc; simp only [Option.some.injEq, Obj.cells.injEq] at hc; exact absurd hc.2.1 (by decide)
  · obtain ⟨es, c, hm, _⟩ := h1.map; rw [hm] at hc; cases hc
  · obtain ⟨c, hc2⟩ := own_row h1.waits hf; rw [hc2] at hc; simp only [Option.some.injEq, Obj.cells.injEq] at hc; exact absurd hc.2.1 (by decide)
  · obtain ⟨f, hf', rfl⟩ := List.mem_map.1 hf
    rw [h1.files f hf'] at hc; simp only [Option.some.injEq, Obj.cells.injEq] at hc; exact absurd hc.2.1 (by decide)
theorem KeepR.step {F' : Nat → Prop} (h : DiskOk w p D F n) (s : Step F w F' w') : KeepR none w w' :=
  ⟨fun B z Z hr _ => row_same hr (fun g hg => s.keeps.block g (hr.lt g hg).2 (off_apart h hr hg)), fun b cur hb => (s.keeps.block b (heap_lt hb) (op_apart h hb)).trans hb⟩
theorem P_set (h : OfS W k p o D lst w F v) (x : OffS) :
    Calls Tryz.prog 9 #[ptrTo o, .agg (offA x)] w fun e w' => e = .returned (.int .i64 (setC lst x)) ∧ (∃ v', OfS W k p o D (setL lst x) w' F v' ∧ ∀ g, v'.ownBlock = some g → v.ownBlock = some g ∨ w.heap.size ≤ g) ∧ KeepR v.ownBlock w w' := by
  refine (Set_any W.heap.size o p v lst x w h.ofs h.owns.calm.size).mono ?_
  rintro e w' ⟨v', rfl, hO, hk, hg⟩
  have hcw : Calm W w' := Below.trans h.owns.calm (hk.below h.owns.calm.size (fun b hb => hb.elim (fun e => e ▸ h.oW) (fun e => (h.ofs.row.lt b e).1)))
  refine ⟨rfl, ⟨v', ⟨h.disk.keep hk (fun b hb hx => hx.elim (fun e => ofs_apart h.disk h.ofs.at_ (e ▸ hb)) (fun e => off_apart h.disk h.ofs.row e hb)), hO, ⟨hcw, h.owns.foot⟩, h.oW⟩, hg⟩, fun B z Z hr hz => row_same hr (fun g hg1 => hk.block g (hr.lt g hg1).2 (fun hx => ?_)), fun b cur hb => (hk.block b (heap_lt hb) (fun hx => ?_)).trans hb⟩
  · rcases hx with rfl | hx
    · obtain ⟨cur, hc⟩ := own_row hr hg1
      have h1 := h.ofs.at_
      unfold OffAt at h1
      rw [hc] at h1
      simp only [Option.some.injEq, Obj.cells.injEq] at h1
      exact absurd h1.2.1 (by decide)
    · exact hz g hg1 hx
  · rcases hx with rfl | hx
    · have h1 := h.ofs.at_
      unfold OffAt at h1
      rw [hb] at h1
      simp only [Option.some.injEq, Obj.cells.injEq] at h1
      exact absurd h1.2.1 (by decide)
    · obtain ⟨c, hc⟩ := own_row h.ofs.row hx
      rw [hb] at hc
      simp only [Option.some.injEq, Obj.cells.injEq] at hc
      exact absurd hc.2.1 (by decide)
theorem P_flush (h : OfS W k p o D lst w F v) (hF : Fit D) (hS : FileO D SL) (hk : k ≤ 1000) :
    Calls Tryz.prog 11 #[ptrTo o] w fun e w' => ∃ c D' F', e = .returned (.int .i64 c) ∧ OfS W (k + 1) p o D' lst w' F' v ∧ Fit D' ∧ ((c = 0 ∧ D.down = false ∧ D'.down = false ∧ FileO D' lst) ∨ (c = 8 ∧ D'.down = true ∧ FileO D' SL)) ∧ KeepR none w w' := by
  have hfew := hF.few h.disk.form
  refine (h.flush hk (fun f hf => by rcases (hF.files f hf).1 with e | e <;> rw [e] <;> decide) (by omega)).mono ?_
  rintro e w' ⟨b, F', hb, rfl, h1, hs⟩
  obtain ⟨c, D', e1, e2, e3⟩ := flush_full hF h.disk.form h.good hS b hb
  rw [e1] at h1 ⊢
  exact ⟨c, D', F', rfl, h1, e2, e3, KeepR.step h.disk hs⟩
theorem P_fuse (h : OfS W k p o D lst w F v) (hF : Fit D) (hS : FileO D SL) (m : Int) (hm : m ≤ 9223372036854775807) :
    Calls Tryz.prog 17 #[ptrTo p, .int .i64 m] w fun e w' => e = .returned (.tuple #[]) ∧ OfS W k p o (D.fuse m) lst w' F v ∧ Fit (D.fuse m) ∧ FileO (D.fuse m) SL ∧ KeepR none w w' := by
  refine (Fuse_any w m h.disk.lies).mono ?_
  rintro e w' ⟨rfl, hd, hs⟩
  exact ⟨rfl, ⟨⟨hd, h.disk.good.fuse m hm, h.disk.waits⟩, h.ofs.step h.disk hs, h.owns.step hs, h.oW⟩, ⟨hF.cap, hF.files⟩, hS.fuse m, KeepR.step h.disk hs⟩
theorem P_crash (h : OfS W k p o D lst w F v) (hF : Fit D) (hS : FileO D SL) (hg : GoodL SL) (hk : k ≤ 1000) (ka : Option Addr) (kcap : Nat) (keep : List Bool) (lack : Int) (hr : RowsAt BoolR 1 W (.slice ka keep.length kcap) keep) (hkl : keep.length ≤ 1000000) :
    Calls Tryz.prog 18 #[ptrTo p, .agg #[.slice ka keep.length kcap, .int .i64 lack]] w fun e w' => e = .returned (.tuple #[]) ∧ (∃ D' F', DiskOk w' p D' F' 0 ∧ Owns W w' F' ∧ Fit D' ∧ FileO D' SL ∧ openO D' = (0, some SL) ∧ (D'.all groupsN).1.size ≤ 1000000 ∧ (loadD D' groupsN).1.size ≤ 1000000) ∧ KeepR none w w' := by
  obtain ⟨a, cap, e, hc, hb⟩ := RowsAt_bools (hr.calm BoolR.lasts h.owns.calm)
  cases e
  have hap : Apart (.slice ka keep.length kcap) F := h.owns.apart hr
  refine (Crash_ok ka kcap keep lack w h.disk (by omega) hb hap hc hkl).mono ?_
  rintro e w' ⟨rfl, F', hd, hs⟩
  obtain ⟨o1, o2, o3⟩ := (hS.crashed keep lack).open hg rfl
  exact ⟨rfl, ⟨_, F', hd, h.owns.step hs, hF.crashed h.disk.good keep lack, hS.crashed keep lack, o1, o2, o3⟩, KeepR.step h.disk hs⟩
end
end Go.Proofs.YtafdfmdcnniccaaGreat.oplay
