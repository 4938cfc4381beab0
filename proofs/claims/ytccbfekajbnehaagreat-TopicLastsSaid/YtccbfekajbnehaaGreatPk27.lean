/- TopicTables' walk. -/
import Derived.Test.YtccbfekajbnehaaGreatRows
import Derived.WalkKit
import Derived.ProofKit
import Derived.OpenShut
import Derived.Handy
import Derived.Deep.LoopGhost
import Derived.Lib.Hide
import Derived.Lib.Strings
import Derived.SizedLaws
import Derived.Maps.Own
import Derived.Maps.OwnOps
import Derived.Maps.OwnSet
import Derived.Maps.RangeWalk
import Derived.Deep.QuietTactic
import Derived.BigQuiet
import Derived.Deep.RegionHeld3
import Derived.Lib.ConvBytes
import Derived.Lib.AppendZeros
import Derived.Lib.AppendZerosOnto
import Derived.Lib.LazyBuf
import Derived.Shelf.Abstract
import Derived.LaidEql
import Derived.Lib.SliceRun
import Derived.StillTailTactics
import Derived.Deep.Slices
import Derived.Outline
import Derived.Shelf.Strings.Builder1
import Derived.Shelf.Small.Bits
import Derived.Shelf.Small.Wraps
import Derived.Shelf.Strings.BuilderF
import Derived.Shelf.Strings.BuilderK
import Derived.Shelf.Strconv.Itoa0
import Derived.Shelf.Sort.Plain
import Derived.Shelf.GgClosure.StringsIndexFunc
import Derived.Ground.GgwProg
import Derived.Shelf.GgClosure.StringsIndexFuncTop
import Derived.Shelf.GgClosure.StringsRunes
import Derived.Shelf.Strings.Prefix
import Derived.Shelf.Strings.BuilderCap
import Derived.Shelf.Slices.In.SortNone
import Derived.Ground.SlgfProg
import Derived.Shelf.SlicesE.IndexFunc
import Derived.Shelf.SlicesE.DeleteFunc
import Derived.Test.YtccbfekajbnehaaGreatProg
import Derived.Lib.DecodeN
import Derived.Shelf.SlicesQ.IndexFunc
import Derived.Shelf.SlicesE.Clone
import Derived.Ground.SlgnProg
import Derived.Laws.MakeOwn
import Derived.Lib.Builder
import Derived.Lib.AppendStr
import Derived.Laws.Rows
import Derived.Shelf.SlIter.Nil
import Derived.Ground.GgzProg
import Derived.Shelf.SortM.Plain
import Derived.Shelf.SortM.SortNone
import Derived.Ground.SlgmProg
import Derived.Laws.BitsLemmas
import Derived.Laws.ResultCell
import Derived.Laws.StructEq
import Derived.Laws.Cover3
import Derived.OwnWalk
import Derived.Deep.DeepCutAuto
import Derived.Deep.RegionLaw
import Derived.Deep.CutBlock
import Derived.Deep.CutRange
import Derived.Test.YtccbfekajbnehaaGreatPk26
namespace Go.Proofs.YtccbfekajbnehaaGreat.ttab
open Go.ChangeShapes Go.WideShapes Go.ChangeAt Go.RowKit
open Go.Proofs.YtccbfekajbnehaaGreat.dk Go.Proofs.YtccbfekajbnehaaGreat.tp Go.Proofs.YtccbfekajbnehaaGreat.nm

def TopR : Reads TopS := fun _ cs a => cs = [.string a.name, .int .i64 a.queues] ∧ a.name.size ≤ maxLen ∧ -9223372036854775808 ≤ a.queues ∧ a.queues ≤ 9223372036854775807
theorem TopR.lasts : TopR.Lasts := fun _ _ _ _ h _ => h
set_option maxRecDepth 100000 in
theorem opens_top : Opens Tryz.prog 40 TopR := fun H enc w base sp held fuel cs x h => by
  obtain ⟨xs, n, _, _, hlen, hxl, hg⟩ := DataW.trod_struct Tryz.underlying40 h
  rw [show Tryz.prog.cellsOf 40 = 2 by kernel_rfl] at hlen
  match cs, hlen with
  | [c0, c1], _ =>
    simp only [List.size_toArray, List.length_cons, List.length_nil] at hxl
    have g0 := hg 0 _ rfl
    have g1 := hg 1 _ rfl
    clear hg
    rw [List.getElem?_eq_getElem (by omega)] at g0 g1
    obtain ⟨a, ha, ha2⟩ := opens_string Tryz.underlying9 _ _ _ _ _ _ _ _ _ g0
    obtain ⟨k, hk, hk2, hk3⟩ := opens_int Tryz.underlying3 _ _ _ _ _ _ _ _ _ g1
    have n1 : Tryz.prog.cellsOf 3 = 1 := by kernel_rfl
    have n2 : Tryz.prog.cellsOf 9 = 1 := by kernel_rfl
    refine ⟨⟨a, k⟩, ?_, ha2, hk2, hk3⟩
    simp [n1, n2] at ha hk
    subst ha hk
    rfl
theorem RowsAt.tops {w : World} {v : Value} {l : List TopS} (h : RowsAt TopR 2 w v l) : ∃ a cap, v = .slice a l.length cap ∧ l.length ≤ maxLen ∧ ∀ i (hi : i < l.length), ∃ b off, a = some ⟨b, off, none⟩ ∧ b < w.heap.size ∧
    w.cell? ⟨b, off + i * 2, none⟩ = some (.string l[i].name) ∧ w.cell? ⟨b, off + i * 2 + 1, none⟩ = some (.int .i64 l[i].queues) ∧ l[i].name.size ≤ maxLen ∧ -9223372036854775808 ≤ l[i].queues ∧ l[i].queues ≤ 9223372036854775807 := by
  obtain ⟨a, cap, rfl, h2, h3, h4⟩ := h
  refine ⟨a, cap, rfl, by omega, fun i hi => ?_⟩
  obtain ⟨b, off, cs, e, hb, hl, hcell, hr, hm⟩ := h4 i hi
  subst hr
  exact ⟨b, off, e, hb, hcell 0 (by omega), hcell 1 (by omega), hm⟩
theorem append_topE (B : Nat) (w : World) (v : Value) (L : List TopS) (x : TopS) (g0 : Nat) (h : topRow B w v L) (hb : w.heap[g0]? = some (.cells #[.string x.name, .int .i64 x.queues] 40 (0, 0))) (hB : B ≤ w.heap.size) (hl : L.length ≤ 1000000) (ty : TypeId) :
    ∃ v' w', (Builtin.append_ #[35, 35] ty #[v, .slice (some ⟨g0, 0, none⟩) 1 1]).run Tryz.prog w = .ok v' w' ∧ topRow B w' v' (L ++ [x]) ∧
      Keeps (fun g => v.ownBlock = some g) w w' ∧ ∀ g, v'.ownBlock = some g → v.ownBlock = some g ∨ w.heap.size ≤ g := by
  obtain ⟨i0, hi, hz0, hz1, hz2⟩ := info_parts infoTop
  obtain ⟨v', w', h1, h2, h3, h4⟩ := append_own (P := Tryz.prog) w 35 ty 40 i0 _ 2 24 Tryz.underlying35 hi hz0 hz1 hz2 (by kernel_rfl) (by decide) v L.length _ (row_zero h) ⟨g0, 0, none⟩ 1 1 (by decide) (encT x) rfl (fun j u hj => by
      rw [add_lit, cell_of hb]
      match j, hj with
      | 0, hj => exact hj
      | 1, hj => exact hj
      | k + 2, hj => simp [encT] at hj) (fun u hu => by
      rcases List.mem_cons.1 hu with rfl | hu
      · rfl
      rcases List.mem_cons.1 hu with rfl | hu
      · rfl
      cases hu) (by simp only [maxLen]; omega) (by omega)
  have hg : ∀ g, v'.ownBlock = some g → v.ownBlock = some g ∨ w.heap.size ≤ g := fun g hg => by
    rcases h4 with h4 | h4
    · exact .inl (h4.symm.trans hg)
    · rw [h4] at hg
      cases hg
      exact .inr (Nat.le_refl _)
  refine ⟨v', w', h1, ?_, h3.mono (fun b _ h => h), hg⟩
  show w'.ownsRow B _ 2 v' (L ++ [x]).length ((L ++ [x]).flatMap encT)
  refine row_base ?_ (fun g e => ?_)
  rotate_left
  · rcases h4 with h4 | h4
    · exact (h.lt g (h4.symm.trans e)).1
    · rw [h4] at e; cases e; exact hB
  rw [List.flatMap_append, List.length_append]
  simpa using h2
/-- A topic is laid behind the law's own list. -/
theorem TabS.more {p t k : Nat} {W wr w2 : World} {lst : List TopS} {av v : Value} {D : DiskS} {F : Nat → Prop} {x : TopS} {av' : Value}
    (hd : DiskOk wr p D F k) (ht : Tabs D (lst ++ [x])) (hT : TblAt wr t p v) (hr : topRow 0 wr v (lst ++ [x])) (hF : ¬ F t) (hO : Owns W wr F) (htW : W.heap.size ≤ t) (hout : topRow W.heap.size wr av lst) (hap : ∀ g, av.ownBlock = some g → v.ownBlock ≠ some g)
    {w1 : World} (hc : Calm wr w1) (hrow : topRow W.heap.size w2 av' (lst ++ [x])) (hk : Keeps (fun g => av.ownBlock = some g) w1 w2) (hg : ∀ g, av'.ownBlock = some g → av.ownBlock = some g ∨ w1.heap.size ≤ g) : ∃ D F v, DiskOk w2 p D F k ∧ Tabs D (lst ++ [x]) ∧ TblAt w2 t p v ∧ topRow 0 w2 v (lst ++ [x]) ∧ ¬ F t ∧ Owns W w2 F ∧ W.heap.size ≤ t ∧ topRow W.heap.size w2 av' (lst ++ [x]) ∧ ∀ g, av'.ownBlock = some g → v.ownBlock ≠ some g := by
  have hout1 := own_calm hout hc
  refine ⟨D, F, v, (hd.calm hc).keep hk (fun b hb e => top_apart (hd.calm hc) hout1 e hb), ht, ?_, ?_, hF, ⟨Below.trans (hO.calm.trans hc) (hk.below (hO.calm.trans hc).size (fun g hg => (hout.lt g hg).1)), hO.foot⟩, htW, hrow, fun g hg2 e => ?_⟩
  · have h1 : TblAt w1 t p v := heap_calm hc hT
    exact (hk.block t (heap_lt h1) (fun e => by
      obtain ⟨cur, hcur⟩ := own_row hout1 e
      unfold TblAt at h1
      rw [hcur] at h1
      simp only [Option.some.injEq, Obj.cells.injEq] at h1
      exact absurd h1.2.1 (by decide))).trans h1
  · have h1 := own_calm hr hc
    exact row_same h1 (fun g hg => hk.block g (h1.lt g hg).2 (fun e => hap g e hg))
  · rcases hg g hg2 with h1 | h1
    · exact hap g h1 e
    · have := (own_calm hr hc).lt g e
      omega
/-- What stands when k topics were added. -/
structure TabS (p t : Nat) (W : World) (k : Nat) (lst : List TopS) (av : Value) (wr : World) (D : DiskS) (F : Nat → Prop) (v : Value) : Prop where
  disk : DiskOk wr p D F k
  tabs : Tabs D lst
  at_ : TblAt wr t p v
  row : topRow 0 wr v lst
  tF : ¬ F t
  owns : Owns W wr F
  tW : W.heap.size ≤ t
  out : topRow W.heap.size wr av lst
  apart : ∀ g, av.ownBlock = some g → v.ownBlock ≠ some g
theorem TabS.tbl {p t k : Nat} {W wr : World} {lst : List TopS} {av v : Value} {D : DiskS} {F : Nat → Prop} (h : TabS p t W k lst av wr D F v) : Tbl wr t p lst :=
  ⟨⟨v, h.at_, h.row⟩, h.tabs.len, Right.ok _ _ h.tabs.right⟩
theorem TabS.calm {p t k : Nat} {W wr w2 : World} {lst : List TopS} {av v : Value} {D : DiskS} {F : Nat → Prop} (h : TabS p t W k lst av wr D F v) (hc : Calm wr w2) : TabS p t W k lst av w2 D F v :=
  ⟨h.disk.calm hc, h.tabs, heap_calm hc h.at_, own_calm h.row hc, h.tF, h.owns.calm' hc, h.tW, own_calm h.out hc, h.apart⟩
def TabR (p t : Nat) (W : World) (k : Nat) (lst : List TopS) (av : Value) (wr : World) : Prop := ∃ D F v, TabS p t W k lst av wr D F v
theorem cell_apart {w : World} {p n g : Nat} {D : DiskS} {F : Nat → Prop} {cur : Array Value} (h : DiskOk w p D F n) (hc : w.heap[g]? = some (.cells cur 40 (0, 0))) : ¬ F g := fun hf => by
  obtain ⟨mb, wv, h1, rfl⟩ := h.lies
  rcases hf with rfl | rfl | hf | hf
  · rw [h1.obj] at hc; simp only [Option.some.injEq, Obj.cells.injEq] at hc; exact absurd hc.2.1 (by decide)
  · obtain ⟨es, c, hm, _⟩ := h1.map; rw [hm] at hc; cases hc
  · obtain ⟨c, hc2⟩ := own_row h1.waits hf; rw [hc2] at hc; simp only [Option.some.injEq, Obj.cells.injEq] at hc; exact absurd hc.2.1 (by decide)
  · obtain ⟨f, hf', rfl⟩ := List.mem_map.1 hf
    rw [h1.files f hf'] at hc; simp only [Option.some.injEq, Obj.cells.injEq] at hc; exact absurd hc.2.1 (by decide)
/-- A topic is added to the table. -/
theorem TabR.add {p t k : Nat} {W wr : World} {lst : List TopS} {av : Value} (h : TabR p t W k lst av wr) (hk : k ≤ 1000) (x : TopS) :
    Calls Tryz.prog 14 #[ptrTo t, .string x.name, .int .i64 x.queues] wr fun e w' => e = .returned (.int .i64 (rightC lst x)) ∧ Calm W w' ∧ (∀ (g : Nat) (cur : Array Value), wr.heap[g]? = some (.cells cur 40 (0, 0)) → w'.heap[g]? = some (.cells cur 40 (0, 0))) ∧
      ∃ D F v, DiskOk w' p D F (k + 1) ∧ Tabs D (if rightC lst x = 0 then lst ++ [x] else lst) ∧ TblAt w' t p v ∧ topRow 0 w' v (if rightC lst x = 0 then lst ++ [x] else lst) ∧ ¬ F t ∧ Owns W w' F ∧ topRow W.heap.size w' av lst ∧ ∀ g, av.ownBlock = some g → v.ownBlock ≠ some g := by
  obtain ⟨D, F, v, h⟩ := h
  have hone := h.tabs.one
  refine (Add_all x.name x.queues wr h.disk h.tbl h.tF (by omega) (fun f hf => by rw [(h.tabs.mem hf).1]; decide) (by omega)).mono ?_
  rintro e w' ⟨b, F', hb, rfl, hd, hT, hs, hF', v', hv', hr', hg'⟩
  obtain ⟨D', hD', hT'⟩ := h.tabs.add x b
  have hD2 : addD D lst ⟨x.name, x.queues⟩ b = (rightC lst x, D', if rightC lst x = 0 then lst ++ [x] else lst) := hD'
  rw [hD2] at hd hr' ⊢
  have hfoot : ∀ b, F b ∨ b = t → W.heap.size ≤ b := fun b hb => hb.elim (h.owns.foot b) (fun e => e ▸ h.tW)
  have hcw : Calm W w' := Below.trans h.owns.calm (hs.keeps.below h.owns.calm.size hfoot)
  have hfr : ∀ (g : Nat) (cur : Array Value), wr.heap[g]? = some (.cells cur 40 (0, 0)) → w'.heap[g]? = some (.cells cur 40 (0, 0)) := fun g cur hc =>
    (hs.keeps.block g (heap_lt hc) (fun hf => by
      rcases hf with hf | rfl
      · exact cell_apart h.disk hc hf
      · have h2 := h.at_
        unfold TblAt at h2
        rw [hc] at h2
        simp only [Option.some.injEq, Obj.cells.injEq] at h2
        exact absurd h2.2.1 (by decide))).trans hc
  refine ⟨rfl, hcw, hfr, D', F', v', hd, hT', hv', hr', hF', ⟨hcw, fun b hb => ?_⟩, ?_, fun g hg e => ?_⟩
  · rcases hs.foot b (.inl hb) with h1 | h1
    · exact hfoot b h1
    · exact Nat.le_trans h.owns.calm.size h1
  · exact row_same h.out (fun g hg => hs.keeps.block g (h.out.lt g hg).2 (fun hf => by
      rcases hf with hf | rfl
      · exact top_apart h.disk h.out hg hf
      · obtain ⟨cur, hcur⟩ := own_row h.out hg
        have h2 := h.at_
        unfold TblAt at h2
        rw [hcur] at h2
        simp only [Option.some.injEq, Obj.cells.injEq] at h2
        exact absurd h2.2.1 (by decide)))
  · rcases hg' g e with ⟨v0, h1, h2⟩ | h1
    · have : v0 = v := by
        have h3 := h.at_
        unfold TblAt at h1 h3
        rw [h1] at h3
        simp only [Option.some.injEq, Obj.cells.injEq, Array.mk.injEq] at h3
        simpa using h3.1
      subst this
      exact h.apart g hg h2
    · have := (h.out.lt g hg).2
      omega
end Go.Proofs.YtccbfekajbnehaaGreat.ttab

/- TopicLasts: what its walk needs. -/
namespace Go.Proofs.YtccbfekajbnehaaGreat.tlast
open Go.ChangeShapes Go.WideShapes Go.ChangeAt Go.RowKit
open Go.Proofs.YtccbfekajbnehaaGreat.dk Go.Proofs.YtccbfekajbnehaaGreat.tp Go.Proofs.YtccbfekajbnehaaGreat.nm

/-- A crash's plan. -/
structure PlanS where
  keep : List Bool
  lack : Int
def PlanR : Reads PlanS := fun w cs y => ∃ kv, cs = [kv, .int .i64 y.lack] ∧ RowsAt BoolR 1 w kv y.keep
set_option maxRecDepth 100000 in
theorem opens_plan : Opens Tryz.prog 52 PlanR := fun H enc w base sp held fuel cs x h => by
  obtain ⟨xs, n, _, _, hlen, hxl, hg⟩ := DataW.trod_struct Tryz.underlying52 h
  rw [show Tryz.prog.cellsOf 52 = 2 by kernel_rfl] at hlen
  match cs, hlen with
  | [c0, c1], _ =>
    simp only [List.size_toArray, List.length_cons, List.length_nil] at hxl
    have g0 := hg 0 _ rfl
    have g1 := hg 1 _ rfl
    clear hg
    rw [List.getElem?_eq_getElem (by omega)] at g0 g1
    obtain ⟨keep, kv, hkv, hkr⟩ := opens_slice (c := 1) Tryz.underlying23 (by kernel_rfl) (by decide) (opens_bool Tryz.underlying4) _ _ _ _ _ _ _ _ _ g0
    obtain ⟨lack, hla, _⟩ := opens_int Tryz.underlying3 _ _ _ _ _ _ _ _ _ g1
    have n1 : Tryz.prog.cellsOf 3 = 1 := by kernel_rfl
    have n4 : Tryz.prog.cellsOf 23 = 1 := by kernel_rfl
    refine ⟨⟨keep, lack⟩, kv, ?_, hkr⟩
    simp [n1, n4] at hkv hla
    subst hkv hla
    rfl
theorem struct_shape {P : Program} {w : World} {r : Reach} {b : Nat} {t : TypeId} {v : Value} {fs : Array Field} (ht : P.underlying t = some (.struct fs)) (h : Value.okWide P w r b t v) : ∃ cs, v = .agg cs := by
  obtain ⟨cs, h1, _⟩ := okWide_struct ht h; exact ⟨cs, h1⟩
theorem plan_arg {w : World} {v : Value} (hv : ∃ cs, v = .agg cs) (h : ∃ y, PlanR w v.cells.toList y) : ∃ y : PlanS × Value, v = .agg #[y.2, .int .i64 y.1.lack] ∧ RowsAt BoolR 1 w y.2 y.1.keep := by
  obtain ⟨cs, rfl⟩ := hv
  obtain ⟨y, kv, he, hr⟩ := h
  refine ⟨(y, kv), ?_, hr⟩
  simp only [Value.cells] at he
  rw [show cs = #[kv, .int .i64 y.lack] from Array.toList_inj.1 he]
/-- Blocks of another type than a disk's and a table's stay as they are. -/
def Oth (T : TypeId) : Prop := T ≠ 61 ∧ T ≠ 91 ∧ T ≠ 87 ∧ T ≠ 78
theorem oth_plan : Oth 52 := by unfold Oth; decide
theorem oth_top : Oth 40 := by unfold Oth; decide
def KeepT (w w' : World) : Prop := ∀ (T : TypeId), Oth T → ∀ (b : Nat) (cur : Array Value), w.heap[b]? = some (Obj.cells cur T (0, 0)) → w'.heap[b]? = some (Obj.cells cur T (0, 0))
theorem KeepT.calm {w w' : World} (h : Calm w w') : KeepT w w' := fun _ _ b cur hb => heap_calm h hb
theorem KeepT.trans {a b c : World} (h : KeepT a b) (k : KeepT b c) : KeepT a c := fun T hT x cur hb => k T hT x cur (h T hT x cur hb)
theorem oth_apart {w : World} {p n g : Nat} {D : DiskS} {F : Nat → Prop} {cur : Array Value} {T : TypeId} (hT : Oth T) (h : DiskOk w p D F n) (hc : w.heap[g]? = some (.cells cur T (0, 0))) : ¬ F g := fun hf => by
  obtain ⟨mb, wv, h1, rfl⟩ := h.lies
  obtain ⟨t1, t2, t3, _⟩ := hT
  rcases hf with rfl | rfl | hf | hf
  · rw [h1.obj] at hc; simp only [Option.some.injEq, Obj.cells.injEq] at hc; exact t1 hc.2.1.symm
  · obtain ⟨es, c, hm, _⟩ := h1.map; rw [hm] at hc; cases hc
  · obtain ⟨c, hc2⟩ := own_row h1.waits hf; rw [hc2] at hc; simp only [Option.some.injEq, Obj.cells.injEq] at hc; exact t2 hc.2.1.symm
  · obtain ⟨f, hf', rfl⟩ := List.mem_map.1 hf
    rw [h1.files f hf'] at hc; simp only [Option.some.injEq, Obj.cells.injEq] at hc; exact t3 hc.2.1.symm
theorem file_foot {w : World} {p n : Nat} {D : DiskS} {F : Nat → Prop} (h : DiskOk w p D F n) {f : FileS} (hf : f ∈ D.files) : f.blk < w.heap.size := by
  refine h.foot_lt _ ?_
  obtain ⟨mb, wv, h1, rfl⟩ := h.lies
  exact .inr (.inr (.inr (List.mem_map.2 ⟨f, hf, rfl⟩)))
/-- What stands when k topics were added. -/
structure LS (p t : Nat) (W : World) (k : Nat) (lst : List TopS) (wr : World) (D : DiskS) (F : Nat → Prop) : Prop where
  disk : DiskOk wr p D F k
  tbl : Tbl wr t p lst
  tF : ¬ F t
  owns : Owns W wr F
  tW : W.heap.size ≤ t
section
variable {p t k : Nat} {W wr w2 : World} {lst : List TopS} {D : DiskS} {F : Nat → Prop}
theorem LS.calm (h : LS p t W k lst wr D F) (hc : Calm wr w2) : LS p t W k lst w2 D F := ⟨h.disk.calm hc, h.tbl.calm hc, h.tF, h.owns.calm' hc, h.tW⟩
theorem LS.keepT {w' : World} {F' : Nat → Prop} (h : LS p t W k lst wr D F) (hs : Step (fun b => F b ∨ b = t) wr (fun b => F' b ∨ b = t) w') : KeepT wr w' := fun T hT g cur hc =>
  (hs.keeps.block g (heap_lt hc) (fun hf => by
    rcases hf with hf | rfl
    · exact oth_apart hT h.disk hc hf
    · obtain ⟨v, h2, _⟩ := h.tbl.at_
      unfold TblAt at h2
      rw [hc] at h2
      simp only [Option.some.injEq, Obj.cells.injEq] at h2
      exact hT.2.2.2 h2.2.1)).trans hc
/-- A topic is added. -/
theorem LS.add (h : LS p t W k lst wr D F) (hk : k ≤ 1000) (x : TopS) (hone : D.files.length ≤ 1000000) (hnm : ∀ f ∈ D.files, f.name.size ≤ maxLen) :
    Calls Tryz.prog 14 #[ptrTo t, .string x.name, .int .i64 x.queues] wr fun e w' => ∃ b F', (∀ f ∈ D.files, f.blk ≠ b) ∧ e = .returned (.int .i64 (addD D lst x b).1) ∧ KeepT wr w' ∧ LS p t W (k + 1) (addD D lst x b).2.2 w' (addD D lst x b).2.1 F' := by
  refine (Add_any x.name x.queues wr h.disk h.tbl h.tF (by omega) hnm hone).mono ?_
  rintro e w' ⟨b, F', hb, rfl, hd, hT, hs, hF'⟩
  have hfoot : ∀ b, F b ∨ b = t → W.heap.size ≤ b := fun b hb => hb.elim (h.owns.foot b) (fun e => e ▸ h.tW)
  have hcw : Calm W w' := Below.trans h.owns.calm (hs.keeps.below h.owns.calm.size hfoot)
  refine ⟨b, F', fun f hf e => ?_, rfl, h.keepT hs, hd, hT, hF', ⟨hcw, fun b hb => ?_⟩, h.tW⟩
  · have := file_foot h.disk hf
    omega
  · rcases hs.foot b (.inl hb) with h1 | h1
    · exact hfoot b h1
    · exact Nat.le_trans h.owns.calm.size h1
def LsR (p t : Nat) (W : World) (k : Nat) (lst : List TopS) (wr : World) : Prop := ∃ D F, LS p t W k lst wr D F ∧ Lasts D lst
def LfR (p t : Nat) (W : World) (k : Nat) (lst : List TopS) (wr : World) : Prop := ∃ (D : DiskS) (n : Int) (F : Nat → Prop), LS p t W k lst wr (D.fuse n) F ∧ Lasts D lst
def LeR (p t : Nat) (W : World) (k : Nat) (lst : List TopS) (wr : World) : Prop := ∃ D F, LS p t W k lst wr D F ∧ Held D lst
theorem LsR.calm (h : LsR p t W k lst wr) (hc : Calm wr w2) : LsR p t W k lst w2 := by obtain ⟨D, F, h1, h2⟩ := h; exact ⟨D, F, h1.calm hc, h2⟩
theorem LfR.calm (h : LfR p t W k lst wr) (hc : Calm wr w2) : LfR p t W k lst w2 := by obtain ⟨D, n, F, h1, h2⟩ := h; exact ⟨D, n, F, h1.calm hc, h2⟩
theorem LeR.calm (h : LeR p t W k lst wr) (hc : Calm wr w2) : LeR p t W k lst w2 := by obtain ⟨D, F, h1, h2⟩ := h; exact ⟨D, F, h1.calm hc, h2⟩
theorem LeR.out (h : LeR p t W k lst wr) : Calm W wr := by obtain ⟨D, F, h1, h2⟩ := h; exact h1.owns.calm
theorem LeR.tbl (h : LeR p t W k lst wr) : Tbl wr t p lst := by obtain ⟨D, F, h1, h2⟩ := h; exact h1.tbl
theorem LsR.end_ (h : LsR p t W k lst wr) : LeR p t W k lst wr := by obtain ⟨D, F, h1, h2⟩ := h; exact ⟨D, F, h1, h2.held⟩
theorem LsR.out (h : LsR p t W k lst wr) : Calm W wr := by obtain ⟨D, F, h1, h2⟩ := h; exact h1.owns.calm
theorem LfR.out (h : LfR p t W k lst wr) : Calm W wr := by obtain ⟨D, n, F, h1, h2⟩ := h; exact h1.owns.calm
theorem LsR.add (h : LsR p t W k lst wr) (hk : k ≤ 1000) (x : TopS) :
    Calls Tryz.prog 14 #[ptrTo t, .string x.name, .int .i64 x.queues] wr fun e w' => ∃ c lst', e = .returned (.int .i64 c) ∧ KeepT wr w' ∧ LsR p t W (k + 1) lst' w' := by
  obtain ⟨D, F, h1, h2⟩ := h
  have hone := h2.tabs.one
  refine (h1.add hk x (by omega) (fun f hf => by rw [(h2.tabs.mem hf).1]; decide)).mono ?_
  rintro e w' ⟨b, F', hb, rfl, hk', hl⟩
  obtain ⟨D', hD', hL⟩ := h2.add x b hb
  rw [hD'] at hl ⊢
  exact ⟨_, _, rfl, hk', D', F', hl, hL⟩
theorem LfR.add (h : LfR p t W k lst wr) (hk : k ≤ 1000) (x : TopS) :
    Calls Tryz.prog 14 #[ptrTo t, .string x.name, .int .i64 x.queues] wr fun e w' => ∃ c lst', e = .returned (.int .i64 c) ∧ KeepT wr w' ∧ LeR p t W (k + 1) lst' w' := by
  obtain ⟨D, n, F, h1, h2⟩ := h
  have hone := h2.tabs.one
  refine (h1.add hk x (show D.files.length ≤ 1000000 by omega) (fun f (hf : f ∈ D.files) => by rw [(h2.tabs.mem hf).1]; decide)).mono ?_
  rintro e w' ⟨b, F', hb, rfl, hk', hl⟩
  obtain ⟨c, D', l', hD', hL⟩ := h2.fused n x b hb
  rw [hD'] at hl ⊢
  exact ⟨_, _, rfl, hk', D', F', hl, hL⟩
theorem LsR.fuse (h : LsR p t W k lst wr) (n : Int) (hn : n ≤ 9223372036854775807) :
    Calls Tryz.prog 22 #[ptrTo p, .int .i64 n] wr fun e w' => e = .returned (.tuple #[]) ∧ KeepT wr w' ∧ LfR p t W k lst w' := by
  obtain ⟨D, F, h1, h2⟩ := h
  refine (Fuse_any wr n h1.disk.lies).mono ?_
  rintro e w' ⟨rfl, hd, hs⟩
  refine ⟨rfl, fun T hT g cur hc => (hs.keeps.block g (heap_lt hc) (oth_apart hT h1.disk hc)).trans hc, D, n, F, ⟨⟨hd, h1.disk.good.fuse n hn, h1.disk.waits⟩, h1.tbl.step h1.disk h1.tF hs, h1.tF, h1.owns.step hs, h1.tW⟩, h2⟩
/-- A crash; what is opened behind it. -/
theorem LeR.crash (h : LeR p t W k lst wr) (hk : k ≤ 1000) (ka : Option Addr) (kcap : Nat) (keep : List Bool) (lack : Int) (hr : RowsAt BoolR 1 W (.slice ka keep.length kcap) keep) (hkl : keep.length ≤ 1000000) :
    Calls Tryz.prog 23 #[ptrTo p, .agg #[.slice ka keep.length kcap, .int .i64 lack]] wr fun e w' => e = .returned (.tuple #[]) ∧ Calm W w' ∧ (∀ v l, topRow 0 wr v l → topRow 0 w' v l) ∧
      ∃ D F, DiskOk w' p D F 0 ∧ (D.all topicsN).1.size ≤ 1000000 ∧ (loadD D topicsN).1.size ≤ 1000000 ∧ openT D = (0, some lst) := by
  obtain ⟨D, F, h1, h2⟩ := h
  obtain ⟨a, cap, e, hc, hb⟩ := RowsAt_bools (hr.calm BoolR.lasts h1.owns.calm)
  cases e
  have hap : Apart (.slice ka keep.length kcap) F := h1.owns.apart hr
  refine (Crash_ok ka kcap keep lack wr h1.disk (by omega) hb hap hc hkl).mono ?_
  rintro e w' ⟨rfl, F', hd, hs⟩
  have hh := h2.crashed keep lack
  have hdn : (D.crashed keep lack).down = false := rfl
  exact ⟨rfl, (h1.owns.step hs).calm, fun v l hv => row_disk h1.disk hv hs, _, F', hd, hh.all_size hdn, hh.load_size hdn, hh.open hdn⟩
end
end Go.Proofs.YtccbfekajbnehaaGreat.tlast

/- TopicLasts' walk. -/
namespace Go.Proofs.YtccbfekajbnehaaGreat.tlast
open Go.ChangeShapes Go.WideShapes Go.ChangeAt Go.RowKit
open Go.Proofs.YtccbfekajbnehaaGreat.dk Go.Proofs.YtccbfekajbnehaaGreat.tp Go.Proofs.YtccbfekajbnehaaGreat.nm Go.Proofs.YtccbfekajbnehaaGreat.ttab

set_option maxRecDepth 100000 in
set_option maxHeartbeats 60000000 in
theorem walk (W : World) (v : Value) (l : List TopS) (r : RowsAt TopR 2 W v l) (fz : Int) (hwf : (Lit.int .i64 fz).wf = true) (y : PlanS × Value) (rp : RowsAt BoolR 1 W y.2 y.1.keep) :
    Calls Tryz.prog 6 #[v, .int .i64 fz, .agg #[y.2, .int .i64 y.1.lack]] W fun e W' => e = .returned (.bool true) ∧ Calm W W' := by
  obtain ⟨a, cap, rfl, hml, hel⟩ := ttab.RowsAt.tops r
  obtain ⟨⟨keep, lack⟩, kv⟩ := y
  simp only at rp ⊢
  obtain ⟨ka, kcap, rfl, hkc, _⟩ := RowsAt_bools rp
  have hfz : fz ≤ 9223372036854775807 := by unfold Lit.wf at hwf; simp [IntKind.min, IntKind.max, IntKind.bits, IntKind.signed] at hwf; omega
  have Hel := box hel
  have Hkr := box rp
  have hna := heap_new W (.cells #[.slice ka keep.length kcap, .int .i64 lack] 52)
  have hc0 := (Calm.refl W).alloc (.cells #[.slice ka keep.length kcap, .int .i64 lack] 52)
  have Hna := box hna
  have HC0 := box hc0
  clear hel r hwf rp hna hc0
  unfold maxLen at hml
  go_enter Tryz.func6, Tryz.ntmps6
  go_wp2_with fail
  refine (tp.awake_any _).mono ?_
  rintro e w1 ⟨rfl, hca⟩
  have O1 := box ((Owns.refl W).calm' (HC0.out.trans hca))
  have P1 := heap_calm hca Hna.out
  have Hp1 := box P1
  have c0 := cell_of P1 0
  have plt := heap_lt P1
  clear hca P1 HC0 Hna
  by_cases h20 : 20 < l.length
  · go_wp2_with fail
    go_ret
    exact ⟨rfl, O1.out.calm⟩
  by_cases h100 : 100 < keep.length
  · go_wp2_with fail
    go_ret
    exact ⟨rfl, O1.out.calm⟩
  have hn : l.length ≤ 20 := by omega
  have hk100 : keep.length ≤ 100 := by omega
  go_wp2_with fail
  refine (New_ok _ 10000).mono ?_
  rintro e w2 ⟨p, F, rfl, h2, hc2, hF2⟩
  have H2 := box h2
  have O2 := box (O1.out.new hc2 hF2)
  have Hp2 := box (heap_calm hc2 Hp1.out)
  clear h2 hc2 hF2 hml h20 h100 c0 plt Hp1
  go_wp2_with fail
  refine (Open_tb w2 H2.out (by decide) (by decide)).mono ?_
  rw [new_open]
  rintro e w3 ⟨hc3, t, rfl, hT, ht⟩
  have HL0 := box (show LsR p t W 0 [] w3 from ⟨_, _, ⟨H2.out.calm hc3, hT, fun hf => by have := H2.out.foot_lt _ hf; omega, O2.out.calm' hc3, Nat.le_trans O2.out.calm.size ht⟩, Lasts.new⟩)
  have Hp3 := box (heap_calm hc3 Hp2.out)
  clear hc3 hT ht H2 O1 O2 Hp2
  go_wp2_with fail
  go_loopw [38] (fun iv wr => ∃ (k : Nat) (lst : List TopS), k ≤ l.length ∧ iv = .int .i64 k ∧ Box ((k < l.length ∧ LsR p t W k lst wr) ∨ (k = l.length ∧ LeR p t W k lst wr)) ∧ Box (wr.heap[W.heap.size]? = some (Obj.cells #[.slice ka keep.length kcap, .int .i64 lack] 52 (0, 0)))) (fun iv _ => l.length - (intOf iv).toNat)
  case atStart => exact ⟨0, [], Nat.zero_le _, rfl, box (by
    by_cases h0 : 0 < l.length
    · exact .inl ⟨h0, HL0.out⟩
    · exact .inr ⟨by omega, HL0.out.end_⟩), Hp3⟩
  case round =>
    clear HL0 Hp3
    obtain ⟨k, lst, hk, rfl, hR, Hp⟩ := hrel
    obtain ⟨wo, hwo⟩ : ∃ wo : World, wo = wr := ⟨_, rfl⟩
    subst hwo
    rcases hR.out with ⟨hlt, hR⟩ | ⟨rfl, hR⟩
    · have HR := box hR
      clear hR
      obtain ⟨lb, loff, rfl, hlb, hc0, hc1, z0, z1, z2⟩ := Hel.out k hlt
      have d0 := (HR.out.out.cell (p := ⟨lb, loff + k * 2, none⟩) hlb).trans hc0
      have d1 := (HR.out.out.cell (p := ⟨lb, loff + k * 2 + 1, none⟩) hlb).trans hc1
      have hlbo := Nat.lt_of_lt_of_le hlb HR.out.out.size
      obtain ⟨⟨xn, xq⟩, hx⟩ : ∃ z, l[k] = z := ⟨_, rfl⟩
      simp only [hx] at d0 d1 z0 z1 z2
      have Ha := box ((Calm.refl wo).alloc (.cells #[.string xn, .int .i64 xq] 40))
      have Hnew := box (heap_new wo (.cells #[.string xn, .int .i64 xq] 40))
      clear hx hc0 hc1
      by_cases hbig : 100 < xn.size
      · go_wp2_with fail
        go_ret
        exact ⟨rfl, Calm.trans HR.out.out Ha.out⟩
      by_cases hlast : k + 1 = l.length
      · have hi : ((k : Int) == (l.length : Int) - 1) = true := beq_iff_eq.2 (by omega)
        go_wp2_with fail
        refine ((HR.out.calm Ha.out).fuse fz hfz).mono ?_
        rintro e w5 ⟨rfl, hkt, hL5⟩
        have hx5 := hkt _ oth_top _ _ Hnew.out
        have r0 := cell_of hx5 0
        have r1 := cell_of hx5 1
        have xlt := heap_lt hx5
        have HL5 := box hL5
        have Hp5 := box (hkt _ oth_plan _ _ (heap_calm Ha.out Hp.out))
        clear hkt hL5 hx5
        go_wp2_with fail
        refine (HL5.out.add (by omega) ⟨xn, xq⟩).mono ?_
        rintro e w6 ⟨c, lst', rfl, hkt, hL6⟩
        have HL6 := box hL6
        have Hp6 := box (hkt _ oth_plan _ _ Hp5.out)
        clear hkt hL6
        go_wp2_with fail
        go_roundw
        case rel => exact ⟨k + 1, lst', by omega, by go_num, box (.inr ⟨hlast, HL6.out⟩), Hp6⟩
        case measure => simp [intOf]; omega
      · have hi : ((k : Int) == (l.length : Int) - 1) = false := beq_eq_false_iff_ne.2 (by omega)
        go_wp2_with fail
        refine ((HR.out.calm Ha.out).add (by omega) ⟨xn, xq⟩).mono ?_
        rintro e w6 ⟨c, lst', rfl, hkt, hL6⟩
        have HL6 := box hL6
        have Hp6 := box (hkt _ oth_plan _ _ (heap_calm Ha.out Hp.out))
        clear hkt hL6
        go_wp2_with fail
        go_roundw
        case rel => exact ⟨k + 1, lst', by omega, by go_num, box (.inl ⟨by omega, HL6.out⟩), Hp6⟩
        case measure => simp [intOf]; omega
    · have HR := box hR
      have hfew := hR.tbl.few
      clear hR Hel
      go_wp2_with fail
      refine (tAll_any _ HR.out.tbl).mono ?_
      rintro e w8 ⟨v8, rfl, hr8, hc8⟩
      obtain ⟨a8, cap8, rfl, _⟩ := topRow.tops hr8
      have HR8 := box (HR.out.calm hc8)
      have Hr8 := box hr8
      have q1 := heap_calm hc8 Hp.out
      have q10 := cell_of q1 0
      have q11 := cell_of q1 1
      have qlt := heap_lt q1
      have hcrash := box (HR8.out.crash (by omega) ka kcap keep lack Hkr.out (by omega))
      clear hr8 hc8 q1 HR Hp
      go_wp2_with fail
      refine hcrash.out.mono ?_
      rintro e w9 ⟨rfl, hcw, hkr, D9, F9, h9, hs1, hs2, hop⟩
      have Hr9 := box (topRow.tops (hkr _ _ (row_zero Hr8.out)))
      have HW := box hcw
      have hopen := Open_tb w9 h9 hs1 hs2
      rw [hop] at hopen
      have Hopen := box hopen
      clear hkr h9 hs1 hs2 hop hopen hcw q10 q11 qlt hcrash Hr8 HR8
      go_wp2_with fail
      refine Hopen.out.mono ?_
      rintro e wa ⟨hca, hx⟩
      simp only at hx
      obtain ⟨u, rfl, hU, hu⟩ := hx
      have HU := box hU
      have HCa := box hca
      clear hca hU hu Hopen
      go_wp2_with fail
      refine (tAll_any _ HU.out).mono ?_
      rintro e wc ⟨vc, rfl, hrc, hcc⟩
      obtain ⟨ac, capc, rfl, _⟩ := topRow.tops hrc
      have HTc := box (topRow.tops hrc)
      have HR9 := box (Hr9.out.calm (HCa.out.trans hcc))
      have HOc := box (Calm.trans HCa.out hcc)
      clear hrc hcc HU HCa Hr9
      go_wp2_with fail
      go_loopw [91] (fun jv wr => ∃ j : Nat, j ≤ lst.length ∧ jv = .int .i64 j ∧ Calm wc wr) (fun jv _ => lst.length - (intOf jv).toNat)
      case atStart => exact ⟨0, Nat.zero_le _, rfl, .refl _⟩
      case round =>
        obtain ⟨j, hj, rfl, hcj⟩ := hrel
        have HCj := box hcj
        obtain ⟨wj, hwj⟩ : ∃ wj : World, wj = wr := ⟨_, rfl⟩
        subst hwj
        by_cases hjl : j < lst.length
        · obtain ⟨_, _, he8, _, hg8⟩ := HTc.out.calm hcj
          cases he8
          obtain ⟨b8, off8, rfl, hb8, d0, d1⟩ := hg8 j hjl
          obtain ⟨_, _, heR, _, hgR⟩ := HR9.out.calm hcj
          cases heR
          obtain ⟨bR, offR, rfl, hbR, e0, e1⟩ := hgR j hjl
          obtain ⟨⟨yn, yq⟩, hy⟩ : ∃ z, lst[j] = z := ⟨_, rfl⟩
          simp only [hy] at d0 d1 e0 e1
          clear hg8 hgR hy hcj
          go_wp2_with fail
          go_quiet (fail)
          go_wp2_with fail
          go_roundw
          case rel => exact ⟨j + 1, by omega, by go_num, HCj.out.drewN _⟩
          case measure => simp [intOf]; omega
        · obtain rfl : j = lst.length := by omega
          go_wp2_with fail
          go_ret
          exact ⟨rfl, HW.out.trans (HOc.out.trans HCj.out)⟩
end Go.Proofs.YtccbfekajbnehaaGreat.tlast
