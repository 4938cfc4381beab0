/- TopicTables' walk. -/
import Derived.Test.YtccbfekajbnehaaGreatRows
import Derived.WalkKit
import Derived.ProofKit
import Derived.OpenShut
import Derived.Handy
import Derived.Deep.LoopGhost
import Derived.Lib.Hide
import Derived.Lib.Strings
import Derived.SizedLaws
import Derived.Maps.Own
import Derived.Maps.OwnOps
import Derived.Maps.OwnSet
import Derived.Maps.RangeWalk
import Derived.Deep.QuietTactic
import Derived.BigQuiet
import Derived.Deep.RegionHeld3
import Derived.Lib.ConvBytes
import Derived.Lib.AppendZeros
import Derived.Lib.AppendZerosOnto
import Derived.Lib.LazyBuf
import Derived.Shelf.Abstract
import Derived.LaidEql
import Derived.Lib.SliceRun
import Derived.StillTailTactics
import Derived.Deep.Slices
import Derived.Shelf.Strings.Builder1
import Derived.Shelf.Small.Bits
import Derived.Shelf.Small.Wraps
import Derived.Shelf.Strings.BuilderF
import Derived.Shelf.Strings.BuilderK
import Derived.Shelf.Strconv.Itoa0
import Derived.Shelf.Sort.Plain
import Derived.Shelf.GgClosure.StringsIndexFunc
import Derived.Ground.GgwProg
import Derived.Shelf.GgClosure.StringsIndexFuncTop
import Derived.Shelf.GgClosure.StringsRunes
import Derived.Shelf.Strings.Prefix
import Derived.Shelf.Strings.BuilderCap
import Derived.Shelf.Slices.In.SortNone
import Derived.Ground.SlgfProg
import Derived.Shelf.SlicesE.IndexFunc
import Derived.Shelf.SlicesE.DeleteFunc
import Derived.Test.YtccbfekajbnehaaGreatProg
import Derived.Lib.DecodeN
import Derived.Shelf.SlicesQ.IndexFunc
import Derived.Shelf.SlicesE.Clone
import Derived.Ground.SlgnProg
import Derived.Laws.MakeOwn
import Derived.Lib.Builder
import Derived.Lib.AppendStr
import Derived.Laws.Rows
import Derived.Shelf.SlIter.Nil
import Derived.Ground.GgzProg
import Derived.Shelf.SortM.Plain
import Derived.Shelf.SortM.SortNone
import Derived.Ground.SlgmProg
import Derived.Laws.BitsLemmas
import Derived.Laws.ResultCell
import Derived.Laws.StructEq
import Derived.Laws.Cover3
import Derived.OwnWalk
import Derived.Deep.DeepCutAuto
import Derived.Deep.RegionLaw
import Derived.Deep.CutBlock
import Derived.Deep.CutRange
import Derived.Test.YtccbfekajbnehaaGreatPk24
namespace Go.Proofs.YtccbfekajbnehaaGreat.ttab
open Go.ChangeShapes Go.WideShapes Go.ChangeAt Go.RowKit
open Go.Proofs.YtccbfekajbnehaaGreat.dk Go.Proofs.YtccbfekajbnehaaGreat.tp Go.Proofs.YtccbfekajbnehaaGreat.nm

def TopR : Reads TopS := fun _ cs a => cs = [.string a.name, .int .i64 a.queues] ∧ a.name.size ≤ maxLen ∧ -9223372036854775808 ≤ a.queues ∧ a.queues ≤ 9223372036854775807
theorem TopR.lasts : TopR.Lasts := fun _ _ _ _ h _ => h
set_option maxRecDepth 100000 in
theorem opens_top : Opens Tryz.prog 40 TopR := fun H enc w base sp held fuel cs x h => by
  obtain ⟨xs, n, _, _, hlen, hxl, hg⟩ := DataW.trod_struct Tryz.underlying40 h
  rw [show Tryz.prog.cellsOf 40 = 2 by kernel_rfl] at hlen
  match cs, hlen with
  | [c0, c1], _ =>
    simp only [List.size_toArray, List.length_cons, List.length_nil] at hxl
    have g0 := hg 0 _ rfl
    have g1 := hg 1 _ rfl
    clear hg
    rw [List.getElem?_eq_getElem (by omega)] at g0 g1
    obtain ⟨a, ha, ha2⟩ := opens_string Tryz.underlying9 _ _ _ _ _ _ _ _ _ g0
    obtain ⟨k, hk, hk2, hk3⟩ := opens_int Tryz.underlying3 _ _ _ _ _ _ _ _ _ g1
    have n1 : Tryz.prog.cellsOf 3 = 1 := by kernel_rfl
    have n2 : Tryz.prog.cellsOf 9 = 1 := by kernel_rfl
    refine ⟨⟨a, k⟩, ?_, ha2, hk2, hk3⟩
    simp [n1, n2] at ha hk
    subst ha hk
    rfl
theorem RowsAt.tops {w : World} {v : Value} {l : List TopS} (h : RowsAt TopR 2 w v l) : ∃ a cap, v = .slice a l.length cap ∧ l.length ≤ maxLen ∧ ∀ i (hi : i < l.length), ∃ b off, a = some ⟨b, off, none⟩ ∧ b < w.heap.size ∧
    w.cell? ⟨b, off + i * 2, none⟩ = some (.string l[i].name) ∧ w.cell? ⟨b, off + i * 2 + 1, none⟩ = some (.int .i64 l[i].queues) ∧ l[i].name.size ≤ maxLen ∧ -9223372036854775808 ≤ l[i].queues ∧ l[i].queues ≤ 9223372036854775807 := by
  obtain ⟨a, cap, rfl, h2, h3, h4⟩ := h
  refine ⟨a, cap, rfl, by omega, fun i hi => ?_⟩
  obtain ⟨b, off, cs, e, hb, hl, hcell, hr, hm⟩ := h4 i hi
  subst hr
  exact ⟨b, off, e, hb, hcell 0 (by omega), hcell 1 (by omega), hm⟩
theorem append_topE (B : Nat) (w : World) (v : Value) (L : List TopS) (x : TopS) (g0 : Nat) (h : topRow B w v L) (hb : w.heap[g0]? = some (.cells #[.string x.name, .int .i64 x.queues] 40 (0, 0))) (hB : B ≤ w.heap.size) (hl : L.length ≤ 1000000) (ty : TypeId) :
    ∃ v' w', (Builtin.append_ #[35, 35] ty #[v, .slice (some ⟨g0, 0, none⟩) 1 1]).run Tryz.prog w = .ok v' w' ∧ topRow B w' v' (L ++ [x]) ∧
      Keeps (fun g => v.ownBlock = some g) w w' ∧ ∀ g, v'.ownBlock = some g → v.ownBlock = some g ∨ w.heap.size ≤ g := by
  obtain ⟨i0, hi, hz0, hz1, hz2⟩ := info_parts infoTop
  obtain ⟨v', w', h1, h2, h3, h4⟩ := append_own (P := Tryz.prog) w 35 ty 40 i0 _ 2 24 Tryz.underlying35 hi hz0 hz1 hz2 (by kernel_rfl) (by decide) v L.length _ (row_zero h) ⟨g0, 0, none⟩ 1 1 (by decide) (encT x) rfl (fun j u hj => by
      rw [add_lit, cell_of hb]
      match j, hj with
      | 0, hj => exact hj
      | 1, hj => exact hj
      | k + 2, hj => simp [encT] at hj) (fun u hu => by
      rcases List.mem_cons.1 hu with rfl | hu
      · rfl
      rcases List.mem_cons.1 hu with rfl | hu
      · rfl
      cases hu) (by simp only [maxLen]; omega) (by omega)
  have hg : ∀ g, v'.ownBlock = some g → v.ownBlock = some g ∨ w.heap.size ≤ g := fun g hg => by
    rcases h4 with h4 | h4
    · exact .inl (h4.symm.trans hg)
    · rw [h4] at hg
      cases hg
      exact .inr (Nat.le_refl _)
  refine ⟨v', w', h1, ?_, h3.mono (fun b _ h => h), hg⟩
  show w'.ownsRow B _ 2 v' (L ++ [x]).length ((L ++ [x]).flatMap encT)
  refine row_base ?_ (fun g e => ?_)
  rotate_left
  · rcases h4 with h4 | h4
    · exact (h.lt g (h4.symm.trans e)).1
    · rw [h4] at e; cases e; exact hB
  rw [List.flatMap_append, List.length_append]
  simpa using h2
/-- A topic is laid behind the law's own list. -/
theorem TabS.more {p t k : Nat} {W wr w2 : World} {lst : List TopS} {av v : Value} {D : DiskS} {F : Nat → Prop} {x : TopS} {av' : Value}
    (hd : DiskOk wr p D F k) (ht : Tabs D (lst ++ [x])) (hT : TblAt wr t p v) (hr : topRow 0 wr v (lst ++ [x])) (hF : ¬ F t) (hO : Owns W wr F) (htW : W.heap.size ≤ t) (hout : topRow W.heap.size wr av lst) (hap : ∀ g, av.ownBlock = some g → v.ownBlock ≠ some g)
    {w1 : World} (hc : Calm wr w1) (hrow : topRow W.heap.size w2 av' (lst ++ [x])) (hk : Keeps (fun g => av.ownBlock = some g) w1 w2) (hg : ∀ g, av'.ownBlock = some g → av.ownBlock = some g ∨ w1.heap.size ≤ g) : ∃ D F v, DiskOk w2 p D F k ∧ Tabs D (lst ++ [x]) ∧ TblAt w2 t p v ∧ topRow 0 w2 v (lst ++ [x]) ∧ ¬ F t ∧ Owns W w2 F ∧ W.heap.size ≤ t ∧ topRow W.heap.size w2 av' (lst ++ [x]) ∧ ∀ g, av'.ownBlock = some g → v.ownBlock ≠ some g := by
  have hout1 := own_calm hout hc
  refine ⟨D, F, v, (hd.calm hc).keep hk (fun b hb e => top_apart (hd.calm hc) hout1 e hb), ht, ?_, ?_, hF, ⟨Below.trans (hO.calm.trans hc) (hk.below (hO.calm.trans hc).size (fun g hg => (hout.lt g hg).1)), hO.foot⟩, htW, hrow, fun g hg2 e => ?_⟩
  · have h1 : TblAt w1 t p v := heap_calm hc hT
    exact (hk.block t (heap_lt h1) (fun e => by
      obtain ⟨cur, hcur⟩ := own_row hout1 e
      unfold TblAt at h1
      rw [hcur] at h1
      simp only [Option.some.injEq, Obj.cells.injEq] at h1
      exact absurd h1.2.1 (by decide))).trans h1
  · have h1 := own_calm hr hc
    exact row_same h1 (fun g hg => hk.block g (h1.lt g hg).2 (fun e => hap g e hg))
  · rcases hg g hg2 with h1 | h1
    · exact hap g h1 e
    · have := (own_calm hr hc).lt g e
      omega
/-- What stands when k topics were added. -/
structure TabS (p t : Nat) (W : World) (k : Nat) (lst : List TopS) (av : Value) (wr : World) (D : DiskS) (F : Nat → Prop) (v : Value) : Prop where
  disk : DiskOk wr p D F k
  tabs : Tabs D lst
  at_ : TblAt wr t p v
  row : topRow 0 wr v lst
  tF : ¬ F t
  owns : Owns W wr F
  tW : W.heap.size ≤ t
  out : topRow W.heap.size wr av lst
  apart : ∀ g, av.ownBlock = some g → v.ownBlock ≠ some g
theorem TabS.tbl {p t k : Nat} {W wr : World} {lst : List TopS} {av v : Value} {D : DiskS} {F : Nat → Prop} (h : TabS p t W k lst av wr D F v) : Tbl wr t p lst :=
  ⟨⟨v, h.at_, h.row⟩, h.tabs.len, Right.ok _ _ h.tabs.right⟩
theorem TabS.calm {p t k : Nat} {W wr w2 : World} {lst : List TopS} {av v : Value} {D : DiskS} {F : Nat → Prop} (h : TabS p t W k lst av wr D F v) (hc : Calm wr w2) : TabS p t W k lst av w2 D F v :=
  ⟨h.disk.calm hc, h.tabs, heap_calm hc h.at_, own_calm h.row hc, h.tF, h.owns.calm' hc, h.tW, own_calm h.out hc, h.apart⟩
def TabR (p t : Nat) (W : World) (k : Nat) (lst : List TopS) (av : Value) (wr : World) : Prop := ∃ D F v, TabS p t W k lst av wr D F v
theorem cell_apart {w : World} {p n g : Nat} {D : DiskS} {F : Nat → Prop} {cur : Array Value} (h : DiskOk w p D F n) (hc : w.heap[g]? = some (.cells cur 40 (0, 0))) : ¬ F g := fun hf => by
  obtain ⟨mb, wv, h1, rfl⟩ := h.lies
  rcases hf with rfl | rfl | hf | hf
  · rw [h1.obj] at hc; simp only [Option.some.injEq, Obj.cells.injEq] at hc; exact absurd hc.2.1 (by decide)
  · obtain ⟨es, c, hm, _⟩ := h1.map; rw [hm] at hc; cases hc
  · obtain ⟨c, hc2⟩ := own_row h1.waits hf; rw [hc2] at hc; simp only [Option.some.injEq, Obj.cells.injEq] at hc; exact absurd hc.2.1 (by decide)
  · obtain ⟨f, hf', rfl⟩ := List.mem_map.1 hf
    rw [h1.files f hf'] at hc; simp only [Option.some.injEq, Obj.cells.injEq] at hc; exact absurd hc.2.1 (by decide)
/-- A topic is added to the table. -/
theorem TabR.add {p t k : Nat} {W wr : World} {lst : List TopS} {av : Value} (h : TabR p t W k lst av wr) (hk : k ≤ 1000) (x : TopS) :
    Calls Tryz.prog 14 #[ptrTo t, .string x.name, .int .i64 x.queues] wr fun e w' => e = .returned (.int .i64 (rightC lst x)) ∧ Calm W w' ∧ (∀ (g : Nat) (cur : Array Value), wr.heap[g]? = some (.cells cur 40 (0, 0)) → w'.heap[g]? = some (.cells cur 40 (0, 0))) ∧
      ∃ D F v, DiskOk w' p D F (k + 1) ∧ Tabs D (if rightC lst x = 0 then lst ++ [x] else lst) ∧ TblAt w' t p v ∧ topRow 0 w' v (if rightC lst x = 0 then lst ++ [x] else lst) ∧ ¬ F t ∧ Owns W w' F ∧ topRow W.heap.size w' av lst ∧ ∀ g, av.ownBlock = some g → v.ownBlock ≠ some g := by
  obtain ⟨D, F, v, h⟩ := h
  have hone := h.tabs.one
  refine (Add_all x.name x.queues wr h.disk h.tbl h.tF (by omega) (fun f hf => by rw [(h.tabs.mem hf).1]; decide) (by omega)).mono ?_
  rintro e w' ⟨b, F', hb, rfl, hd, hT, hs, hF', v', hv', hr', hg'⟩
  obtain ⟨D', hD', hT'⟩ := h.tabs.add x b
  have hD2 : addD D lst ⟨x.name, x.queues⟩ b = (rightC lst x, D', if rightC lst x = 0 then lst ++ [x] else lst) := hD'
  rw [hD2] at hd hr' ⊢
  have hfoot : ∀ b, F b ∨ b = t → W.heap.size ≤ b := fun b hb => hb.elim (h.owns.foot b) (fun e => e ▸ h.tW)
  have hcw : Calm W w' := Below.trans h.owns.calm (hs.keeps.below h.owns.calm.size hfoot)
  have hfr : ∀ (g : Nat) (cur : Array Value), wr.heap[g]? = some (.cells cur 40 (0, 0)) → w'.heap[g]? = some (.cells cur 40 (0, 0)) := fun g cur hc =>
    (hs.keeps.block g (heap_lt hc) (fun hf => by
      rcases hf with hf | rfl
      · exact cell_apart h.disk hc hf
      · have h2 := h.at_
        unfold TblAt at h2
        rw [hc] at h2
        simp only [Option.some.injEq, Obj.cells.injEq] at h2
        exact absurd h2.2.1 (by decide))).trans hc
  refine ⟨rfl, hcw, hfr, D', F', v', hd, hT', hv', hr', hF', ⟨hcw, fun b hb => ?_⟩, ?_, fun g hg e => ?_⟩
  · rcases hs.foot b (.inl hb) with h1 | h1
    · exact hfoot b h1
    · exact Nat.le_trans h.owns.calm.size h1
  · exact row_same h.out (fun g hg => hs.keeps.block g (h.out.lt g hg).2 (fun hf => by
      rcases hf with hf | rfl
      · exact top_apart h.disk h.out hg hf
      · obtain ⟨cur, hcur⟩ := own_row h.out hg
        have h2 := h.at_
        unfold TblAt at h2
        rw [hcur] at h2
        simp only [Option.some.injEq, Obj.cells.injEq] at h2
        exact absurd h2.2.1 (by decide)))
  · rcases hg' g e with ⟨v0, h1, h2⟩ | h1
    · have : v0 = v := by
        have h3 := h.at_
        unfold TblAt at h1 h3
        rw [h1] at h3
        simp only [Option.some.injEq, Obj.cells.injEq, Array.mk.injEq] at h3
        simpa using h3.1
      subst this
      exact h.apart g hg h2
    · have := (h.out.lt g hg).2
      omega
end Go.Proofs.YtccbfekajbnehaaGreat.ttab

/- Layer 13, plain: how many queues the law reckons. -/
namespace Go.Proofs.YtccbfekajbnehaaGreat.ttab
open Go.ChangeShapes Go.WideShapes Go.ChangeAt Go.RowKit
open Go.Proofs.YtccbfekajbnehaaGreat.dk Go.Proofs.YtccbfekajbnehaaGreat.tp Go.Proofs.YtccbfekajbnehaaGreat.nm

/-- The last one's queues, as the law goes over them. -/
def manyL (ask : ByteArray) (l : List TopS) : Int := l.foldl (fun m y => if y.name = ask then y.queues else m) 0
theorem manyL_snoc (ask : ByteArray) (l : List TopS) (x : TopS) : manyL ask (l ++ [x]) = if x.name = ask then x.queues else manyL ask l := by
  unfold manyL
  rw [List.foldl_append]
  rfl
def foundQ (ask : ByteArray) (l : List TopS) : Int := match l.find? (fun x => decide (x.name = ask)) with | some x => x.queues | none => 0
theorem many_found (ask : ByteArray) (n : Nat) : ∀ (l : List TopS), l.length = n → (∀ k (hk : k < l.length), hasT (l.take k) l[k].name = false) → manyL ask l = foundQ ask l := by
  induction n with
  | zero =>
    intro l hn _
    obtain rfl : l = [] := List.eq_nil_of_length_eq_zero hn
    rfl
  | succ n ih =>
    intro l hn h
    have hne : l ≠ [] := fun e => by subst e; cases hn
    obtain ⟨r, x, rfl⟩ : ∃ r x, l = r ++ [x] := ⟨l.dropLast, l.getLast hne, (List.dropLast_concat_getLast hne).symm⟩
    rw [List.length_append, List.length_singleton] at hn
    have hr := ih r (by omega) (fun k hk => by
      have h1 := h k (by rw [List.length_append]; omega)
      rw [List.take_append_of_le_length (by omega)] at h1
      rw [List.getElem_append_left hk] at h1
      exact h1)
    have hx := h r.length (by rw [List.length_append, List.length_singleton]; omega)
    rw [List.take_left, List.getElem_append_right (Nat.le_refl _)] at hx
    simp only [Nat.sub_self, List.getElem_cons_zero] at hx
    rw [manyL_snoc]
    unfold foundQ
    rw [List.find?_append]
    by_cases he : x.name = ask
    · rw [if_pos he]
      have : r.find? (fun y => decide (y.name = ask)) = none := by
        rw [List.find?_eq_none]
        intro y hy
        unfold hasT at hx
        have := List.any_eq_false.1 hx y hy
        rw [he] at this
        exact this
      rw [this]
      simp [he]
    · rw [if_neg he, hr]
      unfold foundQ
      cases hf : r.find? (fun y => decide (y.name = ask)) with
      | some y => rfl
      | none => simp [he]
theorem Right.unlike : ∀ (r l : List TopS), Right l r → ∀ k (hk : k < r.length), hasT (l ++ r.take k) r[k].name = false
  | [], _, _ => fun k hk => absurd hk (Nat.not_lt_zero _)
  | y :: r, l, ⟨h1, h2⟩ => fun k hk => by
    cases k with
    | zero =>
      simp only [List.take_zero, List.append_nil, List.getElem_cons_zero]
      cases hh : hasT l y.name with
      | false => rfl
      | true =>
        unfold rightC at h1
        rw [hh] at h1
        split at h1; cases h1
        split at h1; cases h1
        rw [if_pos rfl] at h1
        cases h1
    | succ k =>
      have := Right.unlike r (l ++ [y]) h2 k (by simpa using hk)
      simpa using this
theorem Tabs.many {D : DiskS} {l : List TopS} (h : Tabs D l) (ask : ByteArray) : manyL ask l = foundQ ask l :=
  many_found ask _ l rfl (fun k hk => by simpa using Right.unlike l [] h.right k hk)
end Go.Proofs.YtccbfekajbnehaaGreat.ttab
