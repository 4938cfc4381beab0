/- Layer 13: Open; Add. -/
import Derived.Test.YtccbfekajbnehaaGreatRows
import Derived.WalkKit
import Derived.ProofKit
import Derived.OpenShut
import Derived.Handy
import Derived.Deep.LoopGhost
import Derived.Lib.Hide
import Derived.Lib.Strings
import Derived.SizedLaws
import Derived.Maps.Own
import Derived.Maps.OwnOps
import Derived.Maps.OwnSet
import Derived.Maps.RangeWalk
import Derived.Deep.QuietTactic
import Derived.BigQuiet
import Derived.Deep.RegionHeld3
import Derived.Lib.ConvBytes
import Derived.Lib.AppendZeros
import Derived.Lib.AppendZerosOnto
import Derived.Lib.LazyBuf
import Derived.Shelf.Abstract
import Derived.LaidEql
import Derived.Lib.SliceRun
import Derived.StillTailTactics
import Derived.Deep.Slices
import Derived.Shelf.Strings.Builder1
import Derived.Shelf.Small.Bits
import Derived.Shelf.Small.Wraps
import Derived.Shelf.Strings.BuilderF
import Derived.Shelf.Strings.BuilderK
import Derived.Shelf.Strconv.Itoa0
import Derived.Shelf.Sort.Plain
import Derived.Shelf.GgClosure.StringsIndexFunc
import Derived.Ground.GgwProg
import Derived.Shelf.GgClosure.StringsIndexFuncTop
import Derived.Shelf.GgClosure.StringsRunes
import Derived.Shelf.Strings.Prefix
import Derived.Shelf.Strings.BuilderCap
import Derived.Shelf.Slices.In.SortNone
import Derived.Ground.SlgfProg
import Derived.Shelf.SlicesE.IndexFunc
import Derived.Shelf.SlicesE.DeleteFunc
import Derived.Test.YtccbfekajbnehaaGreatProg
import Derived.Lib.DecodeN
import Derived.Shelf.SlicesQ.IndexFunc
import Derived.Shelf.SlicesE.Clone
import Derived.Ground.SlgnProg
import Derived.Laws.MakeOwn
import Derived.Lib.Builder
import Derived.Lib.AppendStr
import Derived.Laws.Rows
import Derived.Shelf.SlIter.Nil
import Derived.Ground.GgzProg
import Derived.Shelf.SortM.Plain
import Derived.Shelf.SortM.SortNone
import Derived.Ground.SlgmProg
import Derived.Laws.BitsLemmas
import Derived.Laws.ResultCell
import Derived.Laws.StructEq
import Derived.Laws.Cover3
import Derived.OwnWalk
import Derived.Deep.DeepCutAuto
import Derived.Deep.RegionLaw
import Derived.Deep.CutBlock
import Derived.Test.YtccbfekajbnehaaGreatPk23
namespace Go.Proofs.YtccbfekajbnehaaGreat.tp
open Go.ChangeShapes Go.WideShapes Go.ChangeAt Go.RowKit
open Go.Proofs.YtccbfekajbnehaaGreat.dk Go.Proofs.YtccbfekajbnehaaGreat.nm Go.Proofs.YtccbfekajbnehaaGreat.oc Go.Proofs.YtccbfekajbnehaaGreat.rc

theorem getN_few : ∀ (n : Nat) (R : Rdr) (l l' : List TopS) (R' : Rdr), getN n R l = some (l', R') → l.length ≤ 6 → (∀ x ∈ l, TopOk x) → l'.length ≤ 6 ∧ ∀ x ∈ l', TopOk x
  | 0, R, l, l', R', h, hl, hok => by
    unfold getN at h
    cases h
    exact ⟨hl, hok⟩
  | n + 1, R, l, l', R', h, hl, hok => by
    unfold getN at h
    split at h
    · cases h
    · rename_i hn
      obtain ⟨t, ht⟩ : ∃ t : TopS, ⟨(R.text 16).1, ((R.text 16).2.num 1).1⟩ = t := ⟨_, rfl⟩
      rw [ht] at h hn
      have hr : rightC l t = 0 := by
        by_cases h0 : rightC l t = 0
        · exact h0
        · exact absurd (.inr h0) hn
      unfold rightC at hr
      split at hr; cases hr
      rename_i h1
      split at hr; cases hr
      rename_i h2
      split at hr; cases hr
      split at hr; cases hr
      refine getN_few n _ _ l' R' h (by rw [List.length_append, List.length_singleton]; omega) (fun x hx => ?_)
      rcases List.mem_append.1 hx with hx | hx
      · exact hok x hx
      · rw [List.mem_singleton] at hx
        subst hx
        exact ⟨by simpa using h1, by omega, by omega⟩
theorem getT_few {s : ByteArray} {l : List TopS} (h : getT s = some l) : l.length ≤ 6 ∧ ∀ x ∈ l, TopOk x := by
  unfold getT at h
  split at h
  · cases h
  · rename_i l' R' hg
    split at h
    · cases h
      exact getN_few _ _ _ _ _ hg (Nat.zero_le _) (fun x hx => absurd hx List.not_mem_nil)
    · cases h
theorem calm_setc {a w : World} (h : Calm a w) {b k : Nat} (hp : a.heap.size ≤ b) (u : Value) : Calm a (w.setCell ⟨b, k, none⟩ u) :=
  ((Keeps.of_calm (F := fun b => a.heap.size ≤ b) h).setCell (p := ⟨b, k, none⟩) (.inr hp) u).below (Nat.le_refl _) (fun _ h => h)
/-- What Open finds. -/
def openT (D : DiskS) : Int × Option (List TopS) :=
  if (loadD D topicsN).2.2 ≠ 0 then ((loadD D topicsN).2.2, none) else if (loadD D topicsN).2.1 = false then (0, some []) else
  match getT (loadD D topicsN).1 with
  | none => (4, none)
  | some l => (0, some l)
def OpenDone (r : Int × Option (List TopS)) (p : Nat) (w : World) (e : Ending) (w' : World) : Prop := Calm w w' ∧ match r.2 with
  | none => e = .returned (.tuple #[.pointer none, .int .i64 r.1])
  | some l => ∃ t, e = .returned (.tuple #[ptrTo t, .int .i64 0]) ∧ Tbl w' t p l ∧ w.heap.size ≤ t
section
variable {p t n : Nat} {D : DiskS} {F : Nat → Prop} {l : List TopS}
set_option maxRecDepth 100000 in
set_option maxHeartbeats 4000000 in
theorem Open_tb (w : World) (h : DiskOk w p D F n) (hs : (D.all topicsN).1.size ≤ 1000000) (ht : (loadD D topicsN).1.size ≤ 1000000) :
    Calls Tryz.prog 12 #[ptrTo p] w (OpenDone (openT D) p w) := by
  have hload := box (Load_any topicsN w h hs)
  clear h hs
  unfold openT
  obtain ⟨⟨u, ok, c⟩, hr⟩ : ∃ r, loadD D topicsN = r := ⟨_, rfl⟩
  rw [hr] at hload ht ⊢
  simp only at hload ht ⊢
  clear hr
  by_cases hc : c = 0
  · subst hc
    rw [if_neg (fun h => h rfl)]
    cases ok
    · rw [if_pos rfl]
      go_enter Tryz.func12, Tryz.ntmps12
      go_wp2_with fail
      refine hload.out.mono ?_
      rintro e w1 ⟨rfl, hc1⟩
      have HC1 := box hc1
      clear hc1 hload
      go_wp2_with fail
      go_ret2
      exact ⟨HC1.out.alloc _, w1.heap.size, rfl, ⟨⟨_, heap_new w1 _, World.ownsRow_nil _ _ _ _⟩, Nat.zero_le _, fun x hx => absurd hx List.not_mem_nil⟩, HC1.out.size⟩
    · rw [if_neg (by decide)]
      have hget := box (fun W => get_any u W ht)
      have hfew := box (fun l h => (getT_few (s := u) (l := l) h))
      obtain ⟨G, hG⟩ : ∃ G, getT u = G := ⟨_, rfl⟩
      rw [hG] at hget hfew ⊢
      clear hG
      go_enter Tryz.func12, Tryz.ntmps12
      go_wp2_with fail
      refine hload.out.mono ?_
      rintro e w1 ⟨rfl, hc1⟩
      have HC1 := box hc1
      have hca := (Calm.refl w1).alloc (.cells #[ptrTo p, .slice none 0 0] 78)
      have hna := heap_new w1 (.cells #[ptrTo p, .slice none 0 0] 78)
      have HCa := box hca
      have Hna := box hna
      clear hc1 hload hca hna
      go_wp2_with fail
      refine (hget.out _).mono ?_
      rintro e w2 ⟨v, ok, rfl, hg, hc2⟩
      have j2 := heap_calm hc2 Hna.out
      have r1 := cell_of j2 1
      have f1 := free_of j2 1
      have jlt := heap_lt j2
      have HC2 := box hc2
      have J2 := box j2
      have HG := box hg
      clear hc2 hg j2
      cases G with
      | none =>
        obtain ⟨rfl, va, vm, vc, rfl⟩ := HG.out
        go_wp2_with fail
        go_ret2
        exact ⟨calm_setc (HC1.out.trans (HCa.out.trans HC2.out)) HC1.out.size _, rfl⟩
      | some l =>
        obtain ⟨rfl, hrow⟩ := HG.out
        obtain ⟨a, cap, rfl, _⟩ := topRow.tops hrow
        have Hrow := box hrow
        clear hrow
        go_wp2_with fail
        go_ret2
        refine ⟨calm_setc (HC1.out.trans (HCa.out.trans HC2.out)) HC1.out.size _, w1.heap.size, rfl, ⟨⟨_, heap_set J2.out 1 _, ?_⟩, (hfew.out l rfl).1, (hfew.out l rfl).2⟩, HC1.out.size⟩
        exact row_same (row_zero Hrow.out) (fun g hg => heap_set_other (fun e => by
          have := (Hrow.out.lt g hg).1
          rw [World.size_alloc] at this
          omega) 1 _)
  · rw [if_pos hc]
    have hne : (c == 0) = false := beq_eq_false_iff_ne.2 hc
    have hne2 : (c != 0) = true := by simp [bne, hne]
    go_enter Tryz.func12, Tryz.ntmps12
    go_wp2_with fail
    refine hload.out.mono ?_
    rintro e w1 ⟨rfl, hc1⟩
    have HC1 := box hc1
    clear hc1 hload
    go_wp2_with fail
    go_ret2
    exact ⟨HC1.out, rfl⟩
end
end Go.Proofs.YtccbfekajbnehaaGreat.tp

/- Layer 13: Add. -/
namespace Go.Proofs.YtccbfekajbnehaaGreat.tp
open Go.ChangeShapes Go.WideShapes Go.ChangeAt Go.RowKit
open Go.Proofs.YtccbfekajbnehaaGreat.dk Go.Proofs.YtccbfekajbnehaaGreat.nm Go.Proofs.YtccbfekajbnehaaGreat.oc Go.Proofs.YtccbfekajbnehaaGreat.rc

theorem append_topG (B : Nat) (w : World) (v : Value) (L : List TopS) (x : TopS) (g0 : Nat) (h : topRow B w v L) (hb : w.heap[g0]? = some (.cells #[.string x.name, .int .i64 x.queues] 40 (0, 0))) (hB : B ≤ w.heap.size) (hl : L.length ≤ 1000000) (ty : TypeId) :
    ∃ v' w', (Builtin.append_ #[35, 35] ty #[v, .slice (some ⟨g0, 0, none⟩) 1 1]).run Tryz.prog w = .ok v' w' ∧ topRow B w' v' (L ++ [x]) ∧
      Keeps (fun g => v.ownBlock = some g) w w' := by
  obtain ⟨i0, hi, hz0, hz1, hz2⟩ := info_parts infoTop
  obtain ⟨v', w', h1, h2, h3, h4⟩ := append_own (P := Tryz.prog) w 35 ty 40 i0 _ 2 24 Tryz.underlying35 hi hz0 hz1 hz2 (by kernel_rfl) (by decide) v L.length _ (row_zero h) ⟨g0, 0, none⟩ 1 1 (by decide) (encT x) rfl (fun j u hj => by
      rw [add_lit, cell_of hb]
      match j, hj with
      | 0, hj => exact hj
      | 1, hj => exact hj
      | k + 2, hj => simp [encT] at hj) (fun u hu => by
      rcases List.mem_cons.1 hu with rfl | hu
      · rfl
      rcases List.mem_cons.1 hu with rfl | hu
      · rfl
      cases hu) (by simp only [maxLen]; omega) (by omega)
  refine ⟨v', w', h1, ?_, h3.mono (fun b _ h => h)⟩
  show w'.ownsRow B _ 2 v' (L ++ [x]).length ((L ++ [x]).flatMap encT)
  refine row_base ?_ (fun g e => ?_)
  rotate_left
  · rcases h4 with h4 | h4
    · exact (h.lt g (h4.symm.trans e)).1
    · rw [h4] at e; cases e; exact hB
  rw [List.flatMap_append, List.length_append]
  simpa using h2
/-- append, as one step of a region that draws its order. -/
theorem step_append_run {P : Program} {ops : Array Oper} {o : Oper} {a : Act} {w : World} {K : Act → World → Prop} {Q : Exit → Act → World → Prop} {E : Prop}
    (hg : o.guard = none) (s x : Operand) (t : TypeId) (hop : o.op = Op.call { callee := Callee.builtin Builtin.append, args := #[s, x], argTypes := #[t, t] })
    (vs vx : Value) (hs : a.eval s = vs) (hx : a.eval x = vx) (v' : Value) (w' : World) (hrun : (Builtin.append_ #[t, t] o.type #[vs, vx]).run P w = .ok v' w') (hK : K (a.put o.dst v') w') :
    if Region.wanted o (yielded ops a.tmps) = true then Oper.wp P o a w K Q else E := by
  have hw : Region.wanted o (yielded ops a.tmps) = true := by simp [Region.wanted, hg]
  rw [if_pos hw]
  unfold Oper.wp
  simp [execOp, hop, resolve, invoke, builtin, hs, hx, hrun, Result.andThen]
  exact hK
/-- A row of topics is none of a disk's blocks. -/
theorem top_apart {w : World} {p n B : Nat} {D : DiskS} {F : Nat → Prop} {v : Value} {l : List TopS} (h : DiskOk w p D F n) (hr : topRow B w v l) {g : Nat} (hg : v.ownBlock = some g) : ¬ F g := fun hf => by
  obtain ⟨cur, hc⟩ := own_row hr hg
  obtain ⟨mb, wv, h1, rfl⟩ := h.lies
  rcases hf with rfl | rfl | hf | hf
  · rw [h1.obj] at hc; simp only [Option.some.injEq, Obj.cells.injEq] at hc; exact absurd hc.2.1 (by decide)
  · obtain ⟨es, c, hm, _⟩ := h1.map; rw [hm] at hc; cases hc
  · obtain ⟨c, hc2⟩ := own_row h1.waits hf; rw [hc2] at hc; simp only [Option.some.injEq, Obj.cells.injEq] at hc; exact absurd hc.2.1 (by decide)
  · obtain ⟨f, hf', rfl⟩ := List.mem_map.1 hf
    rw [h1.files f hf'] at hc; simp only [Option.some.injEq, Obj.cells.injEq] at hc; exact absurd hc.2.1 (by decide)
theorem row_disk {w w' : World} {p n B : Nat} {D : DiskS} {F F' : Nat → Prop} {v : Value} {l : List TopS} (h : DiskOk w p D F n) (hr : topRow B w v l) (s : Step F w F' w') : topRow B w' v l :=
  row_same hr (fun g hg => s.keeps.block g (hr.lt g hg).2 (top_apart h hr hg))
theorem Tbl.step {w w' : World} {p n t : Nat} {D : DiskS} {F F' : Nat → Prop} {l : List TopS} (hT : Tbl w t p l) (h : DiskOk w p D F n) (hF : ¬ F t) (s : Step F w F' w') : Tbl w' t p l := by
  obtain ⟨v, h1, h2⟩ := hT.at_
  exact ⟨⟨v, s.same h1 hF, row_disk h h2 s⟩, hT.few, hT.ok⟩
/-- What Add does. -/
def addD (D : DiskS) (l : List TopS) (x : TopS) (b : Nat) : Int × DiskS × List TopS :=
  if rightC l x ≠ 0 then (rightC l x, D, l) else
  if (saveD D topicsN ⟨(putL (l ++ [x])).toArray⟩ b).1 ≠ 0 then ((saveD D topicsN ⟨(putL (l ++ [x])).toArray⟩ b).1, (saveD D topicsN ⟨(putL (l ++ [x])).toArray⟩ b).2, l) else
  (0, (saveD D topicsN ⟨(putL (l ++ [x])).toArray⟩ b).2, l ++ [x])
def AddDone (D : DiskS) (p : Nat) (F : Nat → Prop) (n t : Nat) (l : List TopS) (x : TopS) (w : World) (e : Ending) (w' : World) : Prop :=
  ∃ b F', w.heap.size ≤ b ∧ e = .returned (.int .i64 (addD D l x b).1) ∧ DiskOk w' p (addD D l x b).2.1 F' (n + 1) ∧ Tbl w' t p (addD D l x b).2.2 ∧ Step (fun b => F b ∨ b = t) w (fun b => F' b ∨ b = t) w' ∧ ¬ F' t
theorem right_ok {l : List TopS} {x : TopS} (h : rightC l x = 0) : l.length < 6 ∧ TopOk x := by
  unfold rightC at h
  split at h; cases h
  rename_i h1
  split at h; cases h
  rename_i h2
  split at h; cases h
  split at h; cases h
  exact ⟨by omega, by simpa using h1, by omega, by omega⟩
theorem putL_le : ∀ l : List TopS, (∀ x ∈ l, TopOk x) → (l.flatMap topL).length ≤ 19 * l.length
  | [], _ => Nat.zero_le _
  | x :: l, h => by
    have h1 := putL_le l (fun y hy => h y (List.mem_cons_of_mem _ hy))
    have h2 := (h x List.mem_cons_self).size
    have h3 : (topL x).length = 3 + x.name.size := by unfold topL; rw [List.length_append, textL_length, low_length]; omega
    rw [List.flatMap_cons, List.length_append, List.length_cons, h3]
    omega
theorem putB_le {l : List TopS} (h : ∀ x ∈ l, TopOk x) : (⟨(putL l).toArray⟩ : ByteArray).size ≤ 1 + 19 * l.length := by
  have := putL_le l h
  rw [← size_toList]
  show (putL l).length ≤ _
  unfold putL
  rw [List.length_append, low_length]
  omega
section
variable {p t n : Nat} {D : DiskS} {F : Nat → Prop} {l : List TopS}
set_option maxRecDepth 100000 in
set_option maxHeartbeats 8000000 in
theorem Add_any (nm : ByteArray) (q : Int) (w : World) (h : DiskOk w p D F n) (hT : Tbl w t p l) (hF : ¬ F t) (hn : n ≤ 999980) (hf : ∀ f ∈ D.files, f.name.size ≤ maxLen) (hl : D.files.length ≤ 1000000) :
    Calls Tryz.prog 14 #[ptrTo t, .string nm, .int .i64 q] w (AddDone D p F n t l ⟨nm, q⟩ w) := by
  obtain ⟨v, hTv, hrow⟩ := hT.at_
  have hfew := hT.few
  obtain ⟨va, vc, rfl, _⟩ := hrow.tops
  have hc1 := (Calm.refl w).alloc (.cells #[.string nm, .int .i64 q] 40)
  have hn1 := heap_new w (.cells #[.string nm, .int .i64 q] 40)
  have H := box h
  have HT := box hT
  have HTv := box hTv
  have Hrow := box hrow
  have HC1 := box hc1
  have Hn1 := box hn1
  have hright := box (fun W (hc : Calm w W) => right_any (.slice va l.length vc) l ⟨nm, q⟩ W (hrow.tops.calm hc) (by omega))
  have hcells := box (fun W (hc : Calm (w.alloc (.cells #[.string nm, .int .i64 q] 40)) W) => (show W.cell? ⟨t, 0, none⟩ = some (ptrTo p) ∧ W.cell? ⟨t, 1, none⟩ = some (.slice va l.length vc) ∧ W.cell? ⟨w.heap.size, 0, none⟩ = some (.string nm) ∧ W.cell? ⟨w.heap.size, 1, none⟩ = some (.int .i64 q) from
    ⟨cell_of (heap_calm (hc1.trans hc) hTv) 0, cell_of (heap_calm (hc1.trans hc) hTv) 1, cell_of (heap_calm hc hn1) 0, cell_of (heap_calm hc hn1) 1⟩))
  obtain ⟨c, hc⟩ : ∃ c, rightC l ⟨nm, q⟩ = c := ⟨_, rfl⟩
  rw [hc] at hright
  have Hc := box hc
  have tlt := heap_lt hTv
  have c0 := cell_of (heap_calm hc1 hTv) 0
  have c1 := cell_of (heap_calm hc1 hTv) 1
  have k0 := cell_of hn1 0
  have k1 := cell_of hn1 1
  obtain ⟨w1, hw1⟩ : ∃ w1, w.alloc (.cells #[.string nm, .int .i64 q] 40) = w1 := ⟨_, rfl⟩
  rw [hw1] at hcells HC1 Hn1 c0 c1 k0 k1
  clear h hT hTv hrow hc1 hn1 hc
  go_enter Tryz.func14, Tryz.ntmps14
  go_upto_region 4 with fail
  clear hw1
  go_region_held3 (fun w' => w'.cell? ⟨t, 0, none⟩ = some (ptrTo p) ∧ w'.cell? ⟨t, 1, none⟩ = some (.slice va l.length vc) ∧ w'.cell? ⟨w.heap.size, 0, none⟩ = some (.string nm) ∧ w'.cell? ⟨w.heap.size, 1, none⟩ = some (.int .i64 q)) (first | go_keep | exact hcells.out _ (by (repeat' (first | (with_reducible exact Calm.refl _) | (with_reducible assumption) | (with_reducible refine Calm.drew ?_) | (with_reducible refine Calm.alloc ?_ _) | (with_reducible refine Calm.trans ?_ (by assumption)))))) ((go_at_call 38; refine (hright.out _ (HC1.out.trans (by (repeat' (first | (with_reducible exact Calm.refl _) | (with_reducible assumption) | (with_reducible refine Calm.drew ?_) | (with_reducible refine Calm.alloc ?_ _) | (with_reducible refine Calm.trans ?_ (by assumption))))))).mono ?_; rintro e w2 ⟨rfl, hc2⟩))
  have HC2 := box (show Calm w1 w2 by (repeat' (first | (with_reducible exact Calm.refl _) | (with_reducible assumption) | (with_reducible refine Calm.drew ?_) | (with_reducible refine Calm.alloc ?_ _) | (with_reducible refine Calm.trans ?_ (by assumption)))))
  clear hc2 hright c0 c1 k0 k1
  by_cases hc0 : c = 0
  · subst hc0
    obtain ⟨hl6, hxok⟩ := right_ok Hc.out
    have Hxok := box hxok
    have hclone := box (fun W (hc : Calm w1 W) => Clone_any (.slice va l.length vc) l W ((topRow.tops Hrow.out).calm (HC1.out.trans hc)) (by omega))
    have hl9 : l.length ≤ 1000000 := by omega
    have HS2 := box (Nat.le_trans HC1.out.size HC2.out.size)
    clear hxok
    go_upto_region 7 with fail
    go_cut [9] (fun s9 wx => ∃ a cap, s9 = .slice a (l.length + 1) cap ∧ topRow w.heap.size wx s9 (l ++ [⟨nm, q⟩]) ∧ Calm w1 wx)
    case first =>
      go_region_held3 (fun w' => w'.cell? ⟨t, 0, none⟩ = some (ptrTo p) ∧ w'.cell? ⟨t, 1, none⟩ = some (.slice va l.length vc) ∧ w'.cell? ⟨w.heap.size, 0, none⟩ = some (.string nm) ∧ w'.cell? ⟨w.heap.size, 1, none⟩ = some (.int .i64 q)) (first | go_keep | exact hcells.out _ (HC2.out.trans (by (repeat' (first | (with_reducible exact Calm.refl _) | (with_reducible assumption) | (with_reducible refine Calm.drew ?_) | (with_reducible refine Calm.alloc ?_ _) | (with_reducible refine Calm.trans ?_ (by assumption))))))) (first
        | (go_at_call 39; refine (hclone.out _ (HC2.out.trans (by (repeat' (first | (with_reducible exact Calm.refl _) | (with_reducible assumption) | (with_reducible refine Calm.drew ?_) | (with_reducible refine Calm.alloc ?_ _) | (with_reducible refine Calm.trans ?_ (by assumption))))))).mono ?_; rintro e wc ⟨vc2, rfl, hrc, hcc⟩)
        | (obtain ⟨v2, wd, happ, hrow2, hk2⟩ := append_topG w2.heap.size (wc.alloc (.cells #[.string nm, .int .i64 q] 40)) vc2 l ⟨nm, q⟩ wc.heap.size (own_calm hrc ((Calm.refl wc).alloc _)) (heap_new wc _) (Nat.le_trans hcc.size ((Calm.refl wc).alloc (.cells #[.string nm, .int .i64 q] 40)).size) hl9 35; have hcd : Calm w2 wd := Below.trans (show Calm w2 (wc.alloc (.cells #[.string nm, .int .i64 q] 40)) by (repeat' (first | (with_reducible exact Calm.refl _) | (with_reducible assumption) | (with_reducible refine Calm.drew ?_) | (with_reducible refine Calm.alloc ?_ _) | (with_reducible refine Calm.trans ?_ (by assumption))))) (hk2.below (Nat.le_trans hcc.size ((Calm.refl wc).alloc (.cells #[.string nm, .int .i64 q] 40)).size) (fun g hg => (hrc.lt g hg).1)); refine step_append_run rfl (.tmp 29) (.tmp 31) 35 rfl _ _ (by simp [Act.eval, Act.put]) (by simp [Act.eval, Act.put]) v2 wd happ ?_)
        | (obtain ⟨v2, wd, happ, hrow2, hk2⟩ := append_topG w2.heap.size wc vc2 l ⟨nm, q⟩ w2.heap.size (row_base (row_zero hrc) (fun g hg => Nat.le_trans ((Calm.refl w2).alloc (.cells #[.string nm, .int .i64 q] 40)).size (hrc.lt g hg).1)) (heap_calm hcc (heap_new _ _)) (Nat.le_trans ((Calm.refl w2).alloc (.cells #[.string nm, .int .i64 q] 40)).size hcc.size) hl9 35; have hcd : Calm w2 wd := Below.trans (show Calm w2 wc by (repeat' (first | (with_reducible exact Calm.refl _) | (with_reducible assumption) | (with_reducible refine Calm.drew ?_) | (with_reducible refine Calm.alloc ?_ _) | (with_reducible refine Calm.trans ?_ (by assumption))))) (hk2.below (Nat.le_trans ((Calm.refl w2).alloc (.cells #[.string nm, .int .i64 q] 40)).size hcc.size) (fun g hg => Nat.le_trans ((Calm.refl w2).alloc (.cells #[.string nm, .int .i64 q] 40)).size (hrc.lt g hg).1)); refine step_append_run rfl (.tmp 29) (.tmp 31) 35 rfl _ _ (by simp [Act.eval, Act.put]) (by simp [Act.eval, Act.put]) v2 wd happ ?_))
      all_goals
        obtain ⟨a9, cap9, hv9, _⟩ := topRow.tops hrow2
        rw [List.length_append, List.length_singleton] at hv9
        have Hr9 := box hrow2
        have Hcd := box hcd
        subst hv9
        clear hrow2 hcd happ hk2 hrc hcc
        go_wp2_with fail
        go_meet
        exact ⟨_, _, rfl, row_base (row_zero Hr9.out) (fun g hg => Nat.le_trans HS2.out (Hr9.out.lt g hg).1), HC2.out.trans Hcd.out⟩
    case rest =>
      obtain ⟨a9, cap9, rfl, hr9, hc9⟩ := hcut
      have hok9 : ∀ x ∈ l ++ [⟨nm, q⟩], TopOk x := fun x hx => by
        rcases List.mem_append.1 hx with hx | hx
        · exact HT.out.ok x hx
        · rw [List.mem_singleton] at hx; subst hx; exact Hxok.out
      have hlen9 : (l ++ [(⟨nm, q⟩ : TopS)]).length = l.length + 1 := by rw [List.length_append, List.length_singleton]
      have hus := putB_le hok9
      have hput := box (fun W (hc : Calm wc W) => put_any (.slice a9 (l.length + 1) cap9) (l ++ [⟨nm, q⟩]) W ((topRow.tops hr9).calm hc) (by rw [hlen9]; omega) hok9)
      rw [hlen9] at hus
      obtain ⟨u, hu⟩ : ∃ u : ByteArray, ⟨(putL (l ++ [⟨nm, q⟩])).toArray⟩ = u := ⟨_, rfl⟩
      have hadd : ∀ b, addD D l ⟨nm, q⟩ b = if (saveD D topicsN u b).1 ≠ 0 then ((saveD D topicsN u b).1, (saveD D topicsN u b).2, l) else (0, (saveD D topicsN u b).2, l ++ [⟨nm, q⟩]) := fun b => by
        unfold addD
        rw [Hc.out, if_neg (fun h => h rfl), hu]
      rw [hu] at hput hus
      have Hadd := box hadd
      have hcw := box (HC1.out.trans hc9)
      have hsave := box (fun W (hc : Calm wc W) => Save_any topicsN u W (H.out.calm (hcw.out.trans hc)) hn (by omega) (by decide) hf hl)
      have hT9 := box (fun W (hc : Calm wc W) => (show TblAt W t p (.slice va l.length vc) from heap_calm (hcw.out.trans hc) HTv.out))
      have Hr9 := box hr9
      have hg9 : _ ∧ _ ∧ _ ∧ _ := hcells.out wc hc9
      have c0 := hg9.1
      have HC9 := box hc9
      clear hr9 hc9 hu hadd hg9 hok9 hcells hclone
      go_upto_region 8 with fail
      go_region_held3 (fun w' => w'.cell? ⟨t, 0, none⟩ = some (ptrTo p)) (first | go_keep | exact cell_of (hs8.same (hT9.out _ (by (repeat' (first | (with_reducible exact Calm.refl _) | (with_reducible assumption) | (with_reducible refine Calm.drew ?_) | (with_reducible refine Calm.alloc ?_ _) | (with_reducible refine Calm.trans ?_ (by assumption)))))) hF) 0 | exact cell_of (hT9.out _ (by (repeat' (first | (with_reducible exact Calm.refl _) | (with_reducible assumption) | (with_reducible refine Calm.drew ?_) | (with_reducible refine Calm.alloc ?_ _) | (with_reducible refine Calm.trans ?_ (by assumption)))))) 0) (first
        | (go_at_call 40; refine (hput.out _ (by (repeat' (first | (with_reducible exact Calm.refl _) | (with_reducible assumption) | (with_reducible refine Calm.drew ?_) | (with_reducible refine Calm.alloc ?_ _) | (with_reducible refine Calm.trans ?_ (by assumption)))))).mono ?_; rintro e w7 ⟨rfl, hc7⟩)
        | (go_at_call 9; refine (hsave.out _ (by (repeat' (first | (with_reducible exact Calm.refl _) | (with_reducible assumption) | (with_reducible refine Calm.drew ?_) | (with_reducible refine Calm.alloc ?_ _) | (with_reducible refine Calm.trans ?_ (by assumption)))))).mono ?_; rintro e w8 ⟨b8, hb8, rfl, F8, h8, hs8⟩))
      have hcw7 : Calm wc w7 := by (repeat' (first | (with_reducible exact Calm.refl _) | (with_reducible assumption) | (with_reducible refine Calm.drew ?_) | (with_reducible refine Calm.alloc ?_ _) | (with_reducible refine Calm.trans ?_ (by assumption))))
      have S8 := box (Step.calm_left (hcw.out.trans hcw7) hs8)
      have T8 := box (hs8.same (hT9.out _ hcw7) hF)
      have R8 := box (row_disk (H.out.calm (hcw.out.trans hcw7)) (own_calm Hr9.out hcw7) hs8)
      have Hb8 := box (Nat.le_trans (Calm.trans hcw.out hcw7).size hb8)
      have H8 := box h8
      have hF8 : ¬ F8 t := fun hf => (hs8.foot t hf).elim hF (fun hx => by have := (Calm.trans hcw.out hcw7).size; omega)
      clear h8 hs8 hb8 hcw7 hc7 hput hsave
      obtain ⟨⟨c8, D8⟩, hr8⟩ : ∃ r, saveD D topicsN u b8 = r := ⟨_, rfl⟩
      rw [hr8] at H8 ⊢
      have hadd8 := Hadd.out b8
      rw [hr8] at hadd8
      have Hadd8 := box hadd8
      clear hadd8 hr8 Hadd
      simp only at H8 ⊢
      by_cases hc8 : c8 = 0
      · subst hc8
        have d1 := cell_of T8.out 1
        have g1 := free_of T8.out 1
        have tlt8 := heap_lt T8.out
        go_wp2_with fail
        go_ret
        have hr : addD D l ⟨nm, q⟩ b8 = (0, D8, l ++ [⟨nm, q⟩]) := by rw [Hadd8.out]; simp
        have hks : Keeps (fun b => b = t) w8 (w8.setCell ⟨t, 1, none⟩ (.slice a9 (l.length + 1) cap9)) := Keeps.setCell (F := fun b => b = t) (Keeps.refl _ _) (p := ⟨t, 1, none⟩) (.inl rfl) _
        refine ⟨b8, F8, Hb8.out, ret_int (by rw [hr]), ?_, ?_, ?_, hF8⟩
        · rw [hr]; exact H8.out.keep hks (fun b hb e => hF8 (e ▸ hb))
        · rw [hr]
          refine ⟨⟨_, heap_set T8.out 1 _, ?_⟩, by rw [List.length_append, List.length_singleton]; omega, fun x hx => ?_⟩
          · exact row_same (row_zero R8.out) (fun g hg => heap_set_other (fun e => by
              subst e
              obtain ⟨cur, hcur⟩ := own_row R8.out hg
              rw [T8.out] at hcur
              simp only [Option.some.injEq, Obj.cells.injEq] at hcur
              exact absurd hcur.2.1 (by decide)) 1 _)
          · rcases List.mem_append.1 hx with hx | hx
            · exact HT.out.ok x hx
            · rw [List.mem_singleton] at hx; subst hx; exact Hxok.out
        · exact ⟨Keeps.setCell (p := ⟨t, 1, none⟩) (Keeps.mono S8.out.keeps (fun b _ hb => .inl hb)) (.inl (.inr rfl)) _, fun b hb => by
            rcases hb with hb | hb
            · rcases S8.out.foot b hb with h | h
              · exact .inl (.inl h)
              · exact .inr h
            · exact .inl (.inr hb)⟩
      · have hne : (c8 == 0) = false := beq_eq_false_iff_ne.2 hc8
        have hne2 : (c8 != 0) = true := by simp [bne, hne]
        go_wp2_with fail
        go_ret
        have hr : addD D l ⟨nm, q⟩ b8 = (c8, D8, l) := by rw [Hadd8.out]; simp [hc8]
        refine ⟨b8, F8, Hb8.out, ret_int (by rw [hr]), ?_, ?_, ?_, hF8⟩
        · rw [hr]; exact H8.out
        · rw [hr]; exact HT.out.step H.out hF S8.out
        · exact ⟨S8.out.keeps.mono (fun b _ hb => .inl hb), fun b hb => by
            rcases hb with hb | hb
            · rcases S8.out.foot b hb with h | h
              · exact .inl (.inl h)
              · exact .inr h
            · exact .inl (.inr hb)⟩
  · have hne : (c == 0) = false := beq_eq_false_iff_ne.2 hc0
    have hne2 : (c != 0) = true := by simp [bne, hne]
    go_wp2_with fail
    go_ret
    have hr : addD D l ⟨nm, q⟩ w.heap.size = (c, D, l) := by unfold addD; rw [Hc.out, if_pos hc0]
    refine ⟨w.heap.size, F, Nat.le_refl _, ret_int (by rw [hr]), ?_, ?_, Step.of_calm (HC1.out.trans HC2.out), hF⟩
    · rw [hr]; exact (H.out.calm (HC1.out.trans HC2.out)).mono (Nat.le_succ _)
    · rw [hr]; exact HT.out.calm (HC1.out.trans HC2.out)
end
end Go.Proofs.YtccbfekajbnehaaGreat.tp

/- Layer 13: the laws' example. -/
namespace Go.Proofs.YtccbfekajbnehaaGreat.tp
open Go.ChangeShapes Go.WideShapes Go.ChangeAt Go.RowKit
open Go.Proofs.YtccbfekajbnehaaGreat.dk Go.Proofs.YtccbfekajbnehaaGreat.nm Go.Proofs.YtccbfekajbnehaaGreat.oc Go.Proofs.YtccbfekajbnehaaGreat.rc

abbrev aN : ByteArray := ⟨#[97]⟩
theorem new_has (c : Int) (n : ByteArray) : (new c).has n = false := rfl
theorem new_load (c : Int) : loadD (new c) topicsN = (⟨#[]⟩, false, 0) := rfl
theorem new_open (c : Int) : openT (new c) = (0, some []) := rfl
theorem a_right : rightC [] ⟨aN, 2⟩ = 0 := by decide
theorem fresh_ne (n : ByteArray) : n ++ freshN ≠ n := fun e => by
  have := congrArg ByteArray.size e
  rw [ByteArray.size_append] at this
  have : freshN.size = 4 := rfl
  omega
theorem a_add (b : Nat) : ∃ D, addD (new 1000) [] ⟨aN, 2⟩ b = (0, D, [⟨aN, 2⟩]) := by
  have hok : ∀ x ∈ [(⟨aN, 2⟩ : TopS)], TopOk x := fun x hx => by
    rw [List.mem_singleton] at hx; subst hx; exact (right_ok a_right).2
  have hs := putB_le hok
  obtain ⟨W', h1, _⟩ := save_ok (new_alive 1000) (nm := topicsN) (new_has 1000 _) (fresh_ne _) ⟨(putL [⟨aN, 2⟩]).toArray⟩ (by
    have hc : (new 1000).cap = 1000 := by decide
    have hz : (new 1000).size = 0 := rfl
    rw [hc, hz]
    simp only [List.length_singleton] at hs
    omega) b
  obtain ⟨D1, hD1⟩ : ∃ D1, saveD (new 1000) topicsN ⟨(putL [⟨aN, 2⟩]).toArray⟩ b = (0, D1) := ⟨_, h1⟩
  refine ⟨D1, ?_⟩
  unfold addD
  rw [a_right, if_neg (fun h => h rfl)]
  simp only [List.nil_append]
  rw [hD1]
  rfl
theorem a_check2 : checkT [⟨aN, 2⟩] aN 2 = 13 := by decide
theorem a_check1 : checkT [⟨aN, 2⟩] aN 1 = 0 := by decide
set_option maxRecDepth 100000 in
set_option maxHeartbeats 4000000 in
theorem awake_any (W : World) : Calls Tryz.prog 7 #[] W fun e W' => e = .returned (.bool true) ∧ Calm W W' := by
  go_enter Tryz.func7, Tryz.ntmps7
  go_wp2_with fail
  refine (New_ok _ 1000).mono ?_
  rintro e w1 ⟨p, F, rfl, h1, hc1, hF1⟩
  have O1 := box ((Owns.refl W).new hc1 hF1)
  have H1 := box h1
  clear h1 hc1 hF1
  go_wp2_with fail
  refine (Open_tb w1 H1.out (by decide) (by decide)).mono ?_
  rw [new_open]
  rintro e w2 ⟨hc2, t, rfl, hT, ht⟩
  have HT := box hT
  have O2 := box (O1.out.calm' hc2)
  have H2 := box (H1.out.calm hc2)
  have HFt := box (show ¬ F t from fun hf => by have := H1.out.foot_lt _ hf; omega)
  have Ht := box (show W.heap.size ≤ t from Nat.le_trans O1.out.calm.size ht)
  clear hc2 hT ht
  go_wp2_with fail
  refine (Add_any aN 2 w2 H2.out HT.out HFt.out (by decide) (fun f hf => by cases hf) (Nat.zero_le _)).mono ?_
  rintro e w3 ⟨b, F3, hb, rfl, hd, hT3, hs, hF3⟩
  obtain ⟨D3, hD3⟩ := a_add b
  rw [hD3] at hT3 ⊢
  have HT3 := box hT3
  have HC3 := box (show Calm W w3 from Below.trans O2.out.calm (hs.keeps.below O2.out.calm.size (fun x hx => hx.elim (O2.out.foot x) (fun e => e ▸ Ht.out))))
  clear hd hT3 hs hF3 hb hD3
  go_wp2_with fail
  refine (Check_any aN 2 w3 HT3.out).mono ?_
  rw [a_check2]
  rintro e w4 ⟨rfl, hc4⟩
  have HC4 := box (HC3.out.trans hc4)
  have HT4 := box (HT3.out.calm hc4)
  clear hc4
  go_wp2_with fail
  refine (Check_any aN 1 w4 HT4.out).mono ?_
  rw [a_check1]
  rintro e w5 ⟨rfl, hc5⟩
  have HC5 := box (HC4.out.trans hc5)
  clear hc5
  go_wp2_with fail
  go_ret
  exact ⟨ret_bool (by simp), HC5.out⟩
end Go.Proofs.YtccbfekajbnehaaGreat.tp

/- Layer 13, plain: texts saved under two names. -/
namespace Go.Proofs.YtccbfekajbnehaaGreat.tp
open Go.ChangeShapes Go.WideShapes Go.ChangeAt Go.RowKit
open Go.Proofs.YtccbfekajbnehaaGreat.dk Go.Proofs.YtccbfekajbnehaaGreat.nm Go.Proofs.YtccbfekajbnehaaGreat.oc Go.Proofs.YtccbfekajbnehaaGreat.rc

abbrev oneN : ByteArray := ⟨#[111, 110, 101]⟩
abbrev twoN : ByteArray := ⟨#[116, 119, 111]⟩
abbrev Pr := ByteArray × ByteArray
theorem open_seal (s : ByteArray) : openSeal (sealB s) = some s := by
  have h := seal_open s.data.toList
  have e : (⟨s.data.toList.toArray⟩ : ByteArray) = s := ba_ext rfl
  rw [e] at h
  exact h
structure Saves (D : DiskS) (L : List Pr) : Prop where
  alive : Alive D
  files : D.files.map (fun f => (f.name, f.now)) = L.map (fun x => (x.1, sealB x.2))
  nodup : (L.map (·.1)).Nodup
  names : ∀ x ∈ L, (x.1 = oneN ∨ x.1 = twoN) ∧ x.2.size ≤ 100
  cap : D.cap = 65536
theorem two_most : ∀ L : List ByteArray, L.Nodup → (∀ x ∈ L, x = oneN ∨ x = twoN) → L.length ≤ 2
  | [], _, _ => by simp
  | [_], _, _ => by simp
  | [_, _], _, _ => by simp
  | x :: y :: z :: l, hn, h => by
    have hx := h x (by simp)
    have hy := h y (by simp)
    have hz := h z (by simp)
    simp only [List.nodup_cons, List.mem_cons, not_or] at hn
    obtain ⟨⟨h1, h2, _⟩, ⟨h3, _⟩, _⟩ := hn
    rcases hx with rfl | rfl <;> rcases hy with rfl | rfl <;> rcases hz with rfl | rfl <;> simp_all
section
variable {D : DiskS} {L : List Pr}
theorem Saves.few (h : Saves D L) : L.length ≤ 2 := by
  have := two_most _ h.nodup (fun x hx => by
    obtain ⟨y, hy, rfl⟩ := List.mem_map.1 hx
    exact (h.names y hy).1)
  rwa [List.length_map] at this
theorem Saves.len (h : Saves D L) : D.files.length = L.length := by
  have := congrArg List.length h.files
  rwa [List.length_map, List.length_map] at this
theorem Saves.mem (h : Saves D L) {f : FileS} (hf : f ∈ D.files) : ∃ x ∈ L, f.name = x.1 ∧ f.now = sealB x.2 := by
  have h1 : (f.name, f.now) ∈ L.map (fun x => (x.1, sealB x.2)) := by rw [← h.files]; exact List.mem_map.2 ⟨f, hf, rfl⟩
  obtain ⟨x, hx, he⟩ := List.mem_map.1 h1
  simp only [Prod.mk.injEq] at he
  exact ⟨x, hx, he.1.symm, he.2.symm⟩
theorem Saves.name (h : Saves D L) {f : FileS} (hf : f ∈ D.files) : f.name.size = 3 := by
  obtain ⟨x, hx, hn, _⟩ := h.mem hf
  rw [hn]
  rcases (h.names x hx).1 with e | e <;> rw [e] <;> rfl
theorem total_le (L : List FileS) (m : Nat) (h : ∀ f ∈ L, f.now.size ≤ m) : total L ≤ m * L.length := by
  induction L with
  | nil => exact Nat.zero_le _
  | cons f L ih =>
    have h1 := ih (fun g hg => h g (List.mem_cons_of_mem _ hg))
    have h2 := h f List.mem_cons_self
    have : total (f :: L) = f.now.size + total L := rfl
    rw [this, List.length_cons, Nat.mul_succ]
    omega
theorem Saves.size (h : Saves D L) : D.size ≤ 208 := by
  have h1 := total_le D.files 104 (fun f hf => by
    obtain ⟨x, hx, _, hn⟩ := h.mem hf
    rw [hn, sealB_size]
    have := (h.names x hx).2
    omega)
  have h2 := h.len
  have h3 := h.few
  have : D.size = total D.files := rfl
  have : 104 * D.files.length ≤ 104 * 2 := Nat.mul_le_mul_left _ (by omega)
  omega
theorem Saves.next (h : Saves D L) (n s : ByteArray) (hn : n = oneN ∨ n = twoN) (hs : s.size ≤ 100) (b : Nat) :
    ∃ D', saveD D n s b = (0, D') ∧ Saves D' (L.filter (fun x => !decide (x.1 = n)) ++ [(n, s)]) := by
  have hx : D.has (n ++ freshN) = false := by
    cases hh : D.has (n ++ freshN) with
    | false => rfl
    | true =>
      obtain ⟨f, hf, he⟩ := (has_iff D _).1 hh
      have h1 := h.name hf
      rw [he, ByteArray.size_append] at h1
      have h2 : freshN.size = 4 := rfl
      omega
  obtain ⟨W', h1, _⟩ := save_ok h.alive hx (fresh_ne n) s (by rw [h.cap]; have := h.size; omega) b
  refine ⟨_, h1, ⟨h.alive.left, h.alive.down⟩, ?_, ?_, fun x hx => ?_, h.cap⟩
  · simp only [List.map_append, List.map_cons, List.map_nil]
    congr 1
    have e1 : (D.files.filter fun x => !decide (x.name = n)).map (fun f => (f.name, f.now)) = (D.files.map (fun f => (f.name, f.now))).filter (fun y => !decide (y.1 = n)) := by rw [List.filter_map]; rfl
    have e2 : (L.filter fun x => !decide (x.1 = n)).map (fun x => (x.1, sealB x.2)) = (L.map (fun x => (x.1, sealB x.2))).filter (fun y => !decide (y.1 = n)) := by rw [List.filter_map]; rfl
    rw [e1, e2, h.files]
  · rw [List.map_append, List.nodup_append]
    refine ⟨(h.nodup.sublist ((List.filter_sublist).map _)), by simp, fun a ha b hb e => ?_⟩
    simp only [List.map_cons, List.map_nil, List.mem_singleton] at hb
    obtain ⟨y, hy, rfl⟩ := List.mem_map.1 ha
    have := (List.mem_filter.1 hy).2
    simp only [Bool.not_eq_true', decide_eq_false_iff_not] at this
    exact this (e.trans hb)
  · rcases List.mem_append.1 hx with hx | hx
    · exact h.names x (List.mem_filter.1 hx).1
    · rw [List.mem_singleton] at hx; subst hx; exact ⟨hn, hs⟩
/-- What Load tells. -/
theorem Saves.load (h : Saves D L) {n s : ByteArray} (hm : (n, s) ∈ L) : loadD D n = (s, true, 0) := by
  have h1 : (n, sealB s) ∈ D.files.map (fun f => (f.name, f.now)) := by rw [h.files]; exact List.mem_map.2 ⟨_, hm, rfl⟩
  obtain ⟨f, hf, he⟩ := List.mem_map.1 h1
  simp only [Prod.mk.injEq] at he
  have hall : D.all n = (sealB s, 0) := by
    unfold DiskS.all
    rw [if_neg (by rw [h.alive.down]; exact Bool.false_ne_true)]
    cases hfd : D.find n with
    | none => exact absurd he.1 (find_none hfd f hf)
    | some g =>
      obtain ⟨hg, hgn⟩ := find_some hfd
      obtain ⟨x, hx, hxn, hxs⟩ := h.mem hg
      have hxe : x = (n, s) := by
        have hnd := h.nodup
        have h2 : x.1 = (n, s).1 := by rw [← hxn, hgn]
        exact nodup_inj hnd hx hm h2
      simp only
      rw [hxs, hxe]
  unfold loadD
  rw [hall]
  simp only [open_seal]
  rfl
theorem Saves.none (h : Saves D L) {n : ByteArray} (hm : ∀ x ∈ L, x.1 ≠ n) : loadD D n = (⟨#[]⟩, false, 0) := by
  have hall : D.all n = (⟨#[]⟩, 9) := by
    unfold DiskS.all
    rw [if_neg (by rw [h.alive.down]; exact Bool.false_ne_true)]
    cases hfd : D.find n with
    | none => rfl
    | some g =>
      obtain ⟨hg, hgn⟩ := find_some hfd
      obtain ⟨x, hx, hxn, _⟩ := h.mem hg
      exact absurd (hxn.symm.trans hgn) (hm x hx)
  unfold loadD
  rw [hall]
  rfl
theorem Saves.all (h : Saves D L) (n : ByteArray) : (D.all n).1.size ≤ 1000000 := by
  unfold DiskS.all
  rw [if_neg (by rw [h.alive.down]; exact Bool.false_ne_true)]
  cases hfd : D.find n with
  | none => exact Nat.zero_le _
  | some g =>
    obtain ⟨hg, _⟩ := find_some hfd
    obtain ⟨x, hx, _, hxs⟩ := h.mem hg
    simp only
    rw [hxs, sealB_size]
    have := (h.names x hx).2
    omega
end
end Go.Proofs.YtccbfekajbnehaaGreat.tp

/- Layer 13, plain: a table's bytes are read back; a table is opened anew. -/
namespace Go.Proofs.YtccbfekajbnehaaGreat.tp
open Go.ChangeShapes Go.WideShapes Go.ChangeAt Go.RowKit
open Go.Proofs.YtccbfekajbnehaaGreat.dk Go.Proofs.YtccbfekajbnehaaGreat.nm Go.Proofs.YtccbfekajbnehaaGreat.oc Go.Proofs.YtccbfekajbnehaaGreat.rc

/-- Each one might be added behind those ahead. -/
def Right : List TopS → List TopS → Prop
  | _, [] => True
  | l, x :: r => rightC l x = 0 ∧ Right (l ++ [x]) r
theorem Right.snoc : ∀ (r l : List TopS) (x : TopS), Right l r → rightC (l ++ r) x = 0 → Right l (r ++ [x])
  | [], l, x, _, h => ⟨by simpa using h, trivial⟩
  | y :: r, l, x, ⟨h1, h2⟩, h => ⟨h1, Right.snoc r (l ++ [y]) x h2 (by simpa using h)⟩
theorem Right.ok : ∀ (r l : List TopS), Right l r → ∀ x ∈ r, TopOk x
  | [], _, _ => fun x hx => absurd hx List.not_mem_nil
  | y :: r, l, ⟨h1, h2⟩ => fun x hx => by
    rcases List.mem_cons.1 hx with rfl | hx
    · exact (right_ok h1).2
    · exact Right.ok r _ h2 x hx
theorem Right.few : ∀ (r l : List TopS), Right l r → r ≠ [] → (l ++ r).length ≤ 6
  | [], _, _, h => absurd rfl h
  | [y], l, ⟨h1, _⟩, _ => by
    have := (right_ok h1).1
    rw [List.length_append, List.length_singleton]; omega
  | y :: z :: r, l, ⟨_, h2⟩, _ => by
    have := Right.few (z :: r) (l ++ [y]) h2 (by simp)
    simpa using this
theorem num_one (q : Nat) (hq : q < 256) (rest : List UInt8) : (⟨⟨(low 1 q ++ rest).toArray⟩, 0⟩ : Rdr).num 1 = ((q : Int), ⟨⟨rest.toArray⟩, 0⟩) := num_back 1 q (by decide) (by decide) (by show q < 256; exact hq) rest
theorem getN_put : ∀ (r l : List TopS), Right l r → getN r.length ⟨⟨(r.flatMap topL).toArray⟩, 0⟩ l = some (l ++ r, ⟨⟨#[]⟩, 0⟩)
  | [], l, _ => by simp [getN]
  | x :: r, l, ⟨h1, h2⟩ => by
    obtain ⟨hl, hok⟩ := right_ok h1
    have hsz := hok.size
    obtain ⟨_, hq1, hq3⟩ := hok
    have hfl : (x :: r).flatMap topL = textL x.name ++ (low 1 x.queues.toNat ++ r.flatMap topL) := by
      rw [List.flatMap_cons]; unfold topL; rw [List.append_assoc]
    have ht := text_back x.name 16 (by omega) (by omega) (low 1 x.queues.toNat ++ r.flatMap topL)
    have hn := num_one x.queues.toNat (by omega) (r.flatMap topL)
    have hx : (⟨x.name, ((x.queues.toNat : Nat) : Int)⟩ : TopS) = x := by
      obtain ⟨a, b⟩ := x
      simp only at hq1 ⊢
      rw [Int.toNat_of_nonneg (by omega)]
    rw [List.length_cons, hfl]
    unfold getN
    rw [ht]
    simp only
    rw [hn]
    simp only
    rw [hx, h1, if_neg (by simp)]
    rw [getN_put r (l ++ [x]) h2]
    simp
theorem getT_put (l : List TopS) (h : Right [] l) : getT ⟨(putL l).toArray⟩ = some l := by
  have hl : l.length < 256 := by
    by_cases he : l = []
    · subst he; decide
    · have := Right.few l [] h he
      simp at this
      omega
  have hn := num_one l.length hl (l.flatMap topL)
  unfold getT putL
  rw [hn]
  simp only [Int.toNat_natCast]
  rw [getN_put l [] h]
  rfl
/-- What the disk holds of a table. -/
structure Tabs (D : DiskS) (l : List TopS) : Prop where
  alive : Alive D
  cap : D.cap = 10000
  right : Right [] l
  files : D.files.map (fun f => (f.name, f.now)) = if l = [] then [] else [(topicsN, sealB ⟨(putL l).toArray⟩)]
section
variable {D : DiskS} {l : List TopS}
theorem Tabs.len (h : Tabs D l) : l.length ≤ 6 := by
  by_cases he : l = []
  · subst he; exact Nat.zero_le _
  · have := Right.few l [] h.right he
    simpa using this
theorem Tabs.text (h : Tabs D l) : (⟨(putL l).toArray⟩ : ByteArray).size ≤ 115 := by
  have h1 := putB_le (Right.ok l [] h.right)
  have h2 := h.len
  omega
theorem Tabs.mem (h : Tabs D l) {f : FileS} (hf : f ∈ D.files) : f.name = topicsN ∧ f.now = sealB ⟨(putL l).toArray⟩ := by
  have h1 : (f.name, f.now) ∈ D.files.map (fun f => (f.name, f.now)) := List.mem_map.2 ⟨f, hf, rfl⟩
  rw [h.files] at h1
  split at h1
  · cases h1
  · rw [List.mem_singleton, Prod.mk.injEq] at h1
    exact h1
theorem Tabs.one (h : Tabs D l) : D.files.length ≤ 1 := by
  have h1 := congrArg List.length h.files
  rw [List.length_map] at h1
  by_cases he : l = []
  · rw [if_pos he] at h1; rw [h1]; exact Nat.zero_le _
  · rw [if_neg he] at h1; rw [h1]; exact Nat.le_refl _
theorem Tabs.size (h : Tabs D l) : D.size ≤ 200 := by
  have h1 := total_le D.files 119 (fun f hf => by
    rw [(h.mem hf).2, sealB_size]
    have := h.text
    omega)
  have h2 := h.one
  have : D.size = total D.files := rfl
  have : 119 * D.files.length ≤ 119 * 1 := Nat.mul_le_mul_left _ h2
  omega
theorem Tabs.all (h : Tabs D l) : D.all topicsN = if l = [] then (⟨#[]⟩, 9) else (sealB ⟨(putL l).toArray⟩, 0) := by
  unfold DiskS.all
  rw [if_neg (by rw [h.alive.down]; exact Bool.false_ne_true)]
  have hf := h.files
  by_cases he : l = []
  · rw [if_pos he] at hf ⊢
    have hnil : D.files = [] := List.map_eq_nil_iff.1 hf
    have : D.find topicsN = none := by unfold DiskS.find; rw [hnil]; rfl
    rw [this]
  · rw [if_neg he] at hf ⊢
    cases hfd : D.find topicsN with
    | none =>
      have hm : (topicsN, sealB ⟨(putL l).toArray⟩) ∈ D.files.map (fun f => (f.name, f.now)) := by rw [hf]; exact List.mem_singleton.2 rfl
      obtain ⟨f, hf2, hfe⟩ := List.mem_map.1 hm
      exact absurd (congrArg Prod.fst hfe) (find_none hfd f hf2)
    | some f =>
      have := (h.mem (find_some hfd).1).2
      simp only
      rw [this]
theorem Tabs.load (h : Tabs D l) : loadD D topicsN = if l = [] then (⟨#[]⟩, false, 0) else (⟨(putL l).toArray⟩, true, 0) := by
  unfold loadD
  rw [h.all]
  by_cases he : l = []
  · rw [if_pos he, if_pos he]; rfl
  · rw [if_neg he, if_neg he]
    simp only [open_seal]
    rfl
theorem Tabs.open (h : Tabs D l) : openT D = (0, some l) := by
  unfold openT
  rw [h.load]
  by_cases he : l = []
  · rw [if_pos he, he]; rfl
  · rw [if_neg he]
    simp only [getT_put l h.right]
    rfl
theorem Tabs.add (h : Tabs D l) (x : TopS) (b : Nat) : ∃ D', addD D l x b = (rightC l x, D', if rightC l x = 0 then l ++ [x] else l) ∧ Tabs D' (if rightC l x = 0 then l ++ [x] else l) := by
  by_cases hr : rightC l x = 0
  · have hx : D.has (topicsN ++ freshN) = false := by
      cases hh : D.has (topicsN ++ freshN) with
      | false => rfl
      | true =>
        obtain ⟨f, hf, he⟩ := (has_iff D _).1 hh
        exact absurd (he.symm.trans (h.mem hf).1) (fresh_ne _)
    have hR : Right [] (l ++ [x]) := Right.snoc l [] x h.right (by simpa using hr)
    have hl := Right.few (l ++ [x]) [] hR (by simp)
    have hz := putB_le (Right.ok _ [] hR)
    rw [List.nil_append] at hl
    obtain ⟨W', h1, _⟩ := save_ok h.alive hx (fresh_ne topicsN) ⟨(putL (l ++ [x])).toArray⟩ (by rw [h.cap]; have := h.size; omega) b
    rw [if_pos hr]
    refine ⟨{ D with files := (D.files.filter fun x => !decide (x.name = topicsN)) ++ [⟨topicsN, b, sealB ⟨(putL (l ++ [x])).toArray⟩, sealB ⟨(putL (l ++ [x])).toArray⟩⟩], waits := W' }, ?_, ⟨h.alive.left, h.alive.down⟩, h.cap, hR, ?_⟩
    · unfold addD
      rw [hr, if_neg (fun h => h rfl), h1]
      rfl
    · rw [if_neg (by simp)]
      have hn : (D.files.filter fun x => !decide (x.name = topicsN)) = [] := List.filter_eq_nil_iff.2 (fun f hf => by rw [(h.mem hf).1]; simp)
      simp only [hn, List.nil_append, List.map_cons, List.map_nil]
  · refine ⟨D, ?_, ?_⟩
    · unfold addD
      rw [if_pos hr, if_neg hr]
    · rw [if_neg hr]; exact h
end
end Go.Proofs.YtccbfekajbnehaaGreat.tp

/- Layer 13: Add, once more: where the new row lies. -/
namespace Go.Proofs.YtccbfekajbnehaaGreat.tp
open Go.ChangeShapes Go.WideShapes Go.ChangeAt Go.RowKit
open Go.Proofs.YtccbfekajbnehaaGreat.dk Go.Proofs.YtccbfekajbnehaaGreat.nm Go.Proofs.YtccbfekajbnehaaGreat.oc Go.Proofs.YtccbfekajbnehaaGreat.rc

def AddAll (D : DiskS) (p : Nat) (F : Nat → Prop) (n t : Nat) (l : List TopS) (x : TopS) (w : World) (e : Ending) (w' : World) : Prop :=
  ∃ b F', w.heap.size ≤ b ∧ e = .returned (.int .i64 (addD D l x b).1) ∧ DiskOk w' p (addD D l x b).2.1 F' (n + 1) ∧ Tbl w' t p (addD D l x b).2.2 ∧ Step (fun b => F b ∨ b = t) w (fun b => F' b ∨ b = t) w' ∧ ¬ F' t ∧
    ∃ v', TblAt w' t p v' ∧ topRow 0 w' v' (addD D l x b).2.2 ∧ ∀ g, v'.ownBlock = some g → (∃ v, TblAt w t p v ∧ v.ownBlock = some g) ∨ w.heap.size ≤ g
section
variable {p t n : Nat} {D : DiskS} {F : Nat → Prop} {l : List TopS}
set_option maxRecDepth 100000 in
set_option maxHeartbeats 8000000 in
theorem Add_all (nm : ByteArray) (q : Int) (w : World) (h : DiskOk w p D F n) (hT : Tbl w t p l) (hF : ¬ F t) (hn : n ≤ 999980) (hf : ∀ f ∈ D.files, f.name.size ≤ maxLen) (hl : D.files.length ≤ 1000000) :
    Calls Tryz.prog 14 #[ptrTo t, .string nm, .int .i64 q] w (AddAll D p F n t l ⟨nm, q⟩ w) := by
  obtain ⟨v, hTv, hrow⟩ := hT.at_
  have hfew := hT.few
  obtain ⟨va, vc, rfl, _⟩ := hrow.tops
  have hc1 := (Calm.refl w).alloc (.cells #[.string nm, .int .i64 q] 40)
  have hn1 := heap_new w (.cells #[.string nm, .int .i64 q] 40)
  have H := box h
  have HT := box hT
  have HTv := box hTv
  have Hrow := box hrow
  have HC1 := box hc1
  have Hn1 := box hn1
  have hright := box (fun W (hc : Calm w W) => right_any (.slice va l.length vc) l ⟨nm, q⟩ W (hrow.tops.calm hc) (by omega))
  have hcells := box (fun W (hc : Calm (w.alloc (.cells #[.string nm, .int .i64 q] 40)) W) => (show W.cell? ⟨t, 0, none⟩ = some (ptrTo p) ∧ W.cell? ⟨t, 1, none⟩ = some (.slice va l.length vc) ∧ W.cell? ⟨w.heap.size, 0, none⟩ = some (.string nm) ∧ W.cell? ⟨w.heap.size, 1, none⟩ = some (.int .i64 q) from
    ⟨cell_of (heap_calm (hc1.trans hc) hTv) 0, cell_of (heap_calm (hc1.trans hc) hTv) 1, cell_of (heap_calm hc hn1) 0, cell_of (heap_calm hc hn1) 1⟩))
  obtain ⟨c, hc⟩ : ∃ c, rightC l ⟨nm, q⟩ = c := ⟨_, rfl⟩
  rw [hc] at hright
  have Hc := box hc
  have tlt := heap_lt hTv
  have c0 := cell_of (heap_calm hc1 hTv) 0
  have c1 := cell_of (heap_calm hc1 hTv) 1
  have k0 := cell_of hn1 0
  have k1 := cell_of hn1 1
  obtain ⟨w1, hw1⟩ : ∃ w1, w.alloc (.cells #[.string nm, .int .i64 q] 40) = w1 := ⟨_, rfl⟩
  rw [hw1] at hcells HC1 Hn1 c0 c1 k0 k1
  clear h hT hTv hrow hc1 hn1 hc
  go_enter Tryz.func14, Tryz.ntmps14
  go_upto_region 4 with fail
  clear hw1
  go_region_held3 (fun w' => w'.cell? ⟨t, 0, none⟩ = some (ptrTo p) ∧ w'.cell? ⟨t, 1, none⟩ = some (.slice va l.length vc) ∧ w'.cell? ⟨w.heap.size, 0, none⟩ = some (.string nm) ∧ w'.cell? ⟨w.heap.size, 1, none⟩ = some (.int .i64 q)) (first | go_keep | exact hcells.out _ (by (repeat' (first | (with_reducible exact Calm.refl _) | (with_reducible assumption) | (with_reducible refine Calm.drew ?_) | (with_reducible refine Calm.alloc ?_ _) | (with_reducible refine Calm.trans ?_ (by assumption)))))) ((go_at_call 38; refine (hright.out _ (HC1.out.trans (by (repeat' (first | (with_reducible exact Calm.refl _) | (with_reducible assumption) | (with_reducible refine Calm.drew ?_) | (with_reducible refine Calm.alloc ?_ _) | (with_reducible refine Calm.trans ?_ (by assumption))))))).mono ?_; rintro e w2 ⟨rfl, hc2⟩))
  have HC2 := box (show Calm w1 w2 by (repeat' (first | (with_reducible exact Calm.refl _) | (with_reducible assumption) | (with_reducible refine Calm.drew ?_) | (with_reducible refine Calm.alloc ?_ _) | (with_reducible refine Calm.trans ?_ (by assumption)))))
  clear hc2 hright c0 c1 k0 k1
  by_cases hc0 : c = 0
  · subst hc0
    obtain ⟨hl6, hxok⟩ := right_ok Hc.out
    have Hxok := box hxok
    have hclone := box (fun W (hc : Calm w1 W) => Clone_any (.slice va l.length vc) l W ((topRow.tops Hrow.out).calm (HC1.out.trans hc)) (by omega))
    have hl9 : l.length ≤ 1000000 := by omega
    have HS2 := box (Nat.le_trans HC1.out.size HC2.out.size)
    clear hxok
    go_upto_region 7 with fail
    go_cut [9] (fun s9 wx => ∃ a cap, s9 = .slice a (l.length + 1) cap ∧ topRow w.heap.size wx s9 (l ++ [⟨nm, q⟩]) ∧ Calm w1 wx)
    case first =>
      go_region_held3 (fun w' => w'.cell? ⟨t, 0, none⟩ = some (ptrTo p) ∧ w'.cell? ⟨t, 1, none⟩ = some (.slice va l.length vc) ∧ w'.cell? ⟨w.heap.size, 0, none⟩ = some (.string nm) ∧ w'.cell? ⟨w.heap.size, 1, none⟩ = some (.int .i64 q)) (first | go_keep | exact hcells.out _ (HC2.out.trans (by (repeat' (first | (with_reducible exact Calm.refl _) | (with_reducible assumption) | (with_reducible refine Calm.drew ?_) | (with_reducible refine Calm.alloc ?_ _) | (with_reducible refine Calm.trans ?_ (by assumption))))))) (first
        | (go_at_call 39; refine (hclone.out _ (HC2.out.trans (by (repeat' (first | (with_reducible exact Calm.refl _) | (with_reducible assumption) | (with_reducible refine Calm.drew ?_) | (with_reducible refine Calm.alloc ?_ _) | (with_reducible refine Calm.trans ?_ (by assumption))))))).mono ?_; rintro e wc ⟨vc2, rfl, hrc, hcc⟩)
        | (obtain ⟨v2, wd, happ, hrow2, hk2⟩ := append_topG w2.heap.size (wc.alloc (.cells #[.string nm, .int .i64 q] 40)) vc2 l ⟨nm, q⟩ wc.heap.size (own_calm hrc ((Calm.refl wc).alloc _)) (heap_new wc _) (Nat.le_trans hcc.size ((Calm.refl wc).alloc (.cells #[.string nm, .int .i64 q] 40)).size) hl9 35; have hcd : Calm w2 wd := Below.trans (show Calm w2 (wc.alloc (.cells #[.string nm, .int .i64 q] 40)) by (repeat' (first | (with_reducible exact Calm.refl _) | (with_reducible assumption) | (with_reducible refine Calm.drew ?_) | (with_reducible refine Calm.alloc ?_ _) | (with_reducible refine Calm.trans ?_ (by assumption))))) (hk2.below (Nat.le_trans hcc.size ((Calm.refl wc).alloc (.cells #[.string nm, .int .i64 q] 40)).size) (fun g hg => (hrc.lt g hg).1)); refine step_append_run rfl (.tmp 29) (.tmp 31) 35 rfl _ _ (by simp [Act.eval, Act.put]) (by simp [Act.eval, Act.put]) v2 wd happ ?_)
        | (obtain ⟨v2, wd, happ, hrow2, hk2⟩ := append_topG w2.heap.size wc vc2 l ⟨nm, q⟩ w2.heap.size (row_base (row_zero hrc) (fun g hg => Nat.le_trans ((Calm.refl w2).alloc (.cells #[.string nm, .int .i64 q] 40)).size (hrc.lt g hg).1)) (heap_calm hcc (heap_new _ _)) (Nat.le_trans ((Calm.refl w2).alloc (.cells #[.string nm, .int .i64 q] 40)).size hcc.size) hl9 35; have hcd : Calm w2 wd := Below.trans (show Calm w2 wc by (repeat' (first | (with_reducible exact Calm.refl _) | (with_reducible assumption) | (with_reducible refine Calm.drew ?_) | (with_reducible refine Calm.alloc ?_ _) | (with_reducible refine Calm.trans ?_ (by assumption))))) (hk2.below (Nat.le_trans ((Calm.refl w2).alloc (.cells #[.string nm, .int .i64 q] 40)).size hcc.size) (fun g hg => Nat.le_trans ((Calm.refl w2).alloc (.cells #[.string nm, .int .i64 q] 40)).size (hrc.lt g hg).1)); refine step_append_run rfl (.tmp 29) (.tmp 31) 35 rfl _ _ (by simp [Act.eval, Act.put]) (by simp [Act.eval, Act.put]) v2 wd happ ?_))
      all_goals
        obtain ⟨a9, cap9, hv9, _⟩ := topRow.tops hrow2
        rw [List.length_append, List.length_singleton] at hv9
        have Hr9 := box hrow2
        have Hcd := box hcd
        subst hv9
        clear hrow2 hcd happ hk2 hrc hcc
        go_wp2_with fail
        go_meet
        exact ⟨_, _, rfl, row_base (row_zero Hr9.out) (fun g hg => Nat.le_trans HS2.out (Hr9.out.lt g hg).1), HC2.out.trans Hcd.out⟩
    case rest =>
      obtain ⟨a9, cap9, rfl, hr9, hc9⟩ := hcut
      have hok9 : ∀ x ∈ l ++ [⟨nm, q⟩], TopOk x := fun x hx => by
        rcases List.mem_append.1 hx with hx | hx
        · exact HT.out.ok x hx
        · rw [List.mem_singleton] at hx; subst hx; exact Hxok.out
      have hlen9 : (l ++ [(⟨nm, q⟩ : TopS)]).length = l.length + 1 := by rw [List.length_append, List.length_singleton]
      have hus := putB_le hok9
      have hput := box (fun W (hc : Calm wc W) => put_any (.slice a9 (l.length + 1) cap9) (l ++ [⟨nm, q⟩]) W ((topRow.tops hr9).calm hc) (by rw [hlen9]; omega) hok9)
      rw [hlen9] at hus
      obtain ⟨u, hu⟩ : ∃ u : ByteArray, ⟨(putL (l ++ [⟨nm, q⟩])).toArray⟩ = u := ⟨_, rfl⟩
      have hadd : ∀ b, addD D l ⟨nm, q⟩ b = if (saveD D topicsN u b).1 ≠ 0 then ((saveD D topicsN u b).1, (saveD D topicsN u b).2, l) else (0, (saveD D topicsN u b).2, l ++ [⟨nm, q⟩]) := fun b => by
        unfold addD
        rw [Hc.out, if_neg (fun h => h rfl), hu]
      rw [hu] at hput hus
      have Hadd := box hadd
      have hcw := box (HC1.out.trans hc9)
      have hsave := box (fun W (hc : Calm wc W) => Save_any topicsN u W (H.out.calm (hcw.out.trans hc)) hn (by omega) (by decide) hf hl)
      have hT9 := box (fun W (hc : Calm wc W) => (show TblAt W t p (.slice va l.length vc) from heap_calm (hcw.out.trans hc) HTv.out))
      have Hr9 := box hr9
      have hg9 : _ ∧ _ ∧ _ ∧ _ := hcells.out wc hc9
      have c0 := hg9.1
      have HC9 := box hc9
      clear hr9 hc9 hu hadd hg9 hok9 hcells hclone
      go_upto_region 8 with fail
      go_region_held3 (fun w' => w'.cell? ⟨t, 0, none⟩ = some (ptrTo p)) (first | go_keep | exact cell_of (hs8.same (hT9.out _ (by (repeat' (first | (with_reducible exact Calm.refl _) | (with_reducible assumption) | (with_reducible refine Calm.drew ?_) | (with_reducible refine Calm.alloc ?_ _) | (with_reducible refine Calm.trans ?_ (by assumption)))))) hF) 0 | exact cell_of (hT9.out _ (by (repeat' (first | (with_reducible exact Calm.refl _) | (with_reducible assumption) | (with_reducible refine Calm.drew ?_) | (with_reducible refine Calm.alloc ?_ _) | (with_reducible refine Calm.trans ?_ (by assumption)))))) 0) (first
        | (go_at_call 40; refine (hput.out _ (by (repeat' (first | (with_reducible exact Calm.refl _) | (with_reducible assumption) | (with_reducible refine Calm.drew ?_) | (with_reducible refine Calm.alloc ?_ _) | (with_reducible refine Calm.trans ?_ (by assumption)))))).mono ?_; rintro e w7 ⟨rfl, hc7⟩)
        | (go_at_call 9; refine (hsave.out _ (by (repeat' (first | (with_reducible exact Calm.refl _) | (with_reducible assumption) | (with_reducible refine Calm.drew ?_) | (with_reducible refine Calm.alloc ?_ _) | (with_reducible refine Calm.trans ?_ (by assumption)))))).mono ?_; rintro e w8 ⟨b8, hb8, rfl, F8, h8, hs8⟩))
      have hcw7 : Calm wc w7 := by (repeat' (first | (with_reducible exact Calm.refl _) | (with_reducible assumption) | (with_reducible refine Calm.drew ?_) | (with_reducible refine Calm.alloc ?_ _) | (with_reducible refine Calm.trans ?_ (by assumption))))
      have S8 := box (Step.calm_left (hcw.out.trans hcw7) hs8)
      have T8 := box (hs8.same (hT9.out _ hcw7) hF)
      have R8 := box (row_disk (H.out.calm (hcw.out.trans hcw7)) (own_calm Hr9.out hcw7) hs8)
      have Hb8 := box (Nat.le_trans (Calm.trans hcw.out hcw7).size hb8)
      have H8 := box h8
      have hF8 : ¬ F8 t := fun hf => (hs8.foot t hf).elim hF (fun hx => by have := (Calm.trans hcw.out hcw7).size; omega)
      clear h8 hs8 hb8 hcw7 hc7 hput hsave
      obtain ⟨⟨c8, D8⟩, hr8⟩ : ∃ r, saveD D topicsN u b8 = r := ⟨_, rfl⟩
      rw [hr8] at H8 ⊢
      have hadd8 := Hadd.out b8
      rw [hr8] at hadd8
      have Hadd8 := box hadd8
      clear hadd8 hr8 Hadd
      simp only at H8 ⊢
      by_cases hc8 : c8 = 0
      · subst hc8
        have d1 := cell_of T8.out 1
        have g1 := free_of T8.out 1
        have tlt8 := heap_lt T8.out
        go_wp2_with fail
        go_ret
        have hr : addD D l ⟨nm, q⟩ b8 = (0, D8, l ++ [⟨nm, q⟩]) := by rw [Hadd8.out]; simp
        have hks : Keeps (fun b => b = t) w8 (w8.setCell ⟨t, 1, none⟩ (.slice a9 (l.length + 1) cap9)) := Keeps.setCell (F := fun b => b = t) (Keeps.refl _ _) (p := ⟨t, 1, none⟩) (.inl rfl) _
        have hrow9 : topRow 0 (w8.setCell ⟨t, 1, none⟩ (.slice a9 (l.length + 1) cap9)) (.slice a9 (l.length + 1) cap9) (l ++ [⟨nm, q⟩]) :=
            row_same (row_zero R8.out) (fun g hg => heap_set_other (fun e => by
              subst e
              obtain ⟨cur, hcur⟩ := own_row R8.out hg
              rw [T8.out] at hcur
              simp only [Option.some.injEq, Obj.cells.injEq] at hcur
              exact absurd hcur.2.1 (by decide)) 1 _)
        refine ⟨b8, F8, Hb8.out, ret_int (by rw [hr]), ?_, ?_, ?_, hF8, ?_⟩
        · rw [hr]; exact H8.out.keep hks (fun b hb e => hF8 (e ▸ hb))
        · rw [hr]
          refine ⟨⟨_, heap_set T8.out 1 _, hrow9⟩, by rw [List.length_append, List.length_singleton]; omega, fun x hx => ?_⟩
          · rcases List.mem_append.1 hx with hx | hx
            · exact HT.out.ok x hx
            · rw [List.mem_singleton] at hx; subst hx; exact Hxok.out
        rotate_left
        · rw [hr]
          exact ⟨_, heap_set T8.out 1 _, hrow9, fun g hg => .inr (R8.out.lt g hg).1⟩
        · exact ⟨Keeps.setCell (p := ⟨t, 1, none⟩) (Keeps.mono S8.out.keeps (fun b _ hb => .inl hb)) (.inl (.inr rfl)) _, fun b hb => by
            rcases hb with hb | hb
            · rcases S8.out.foot b hb with h | h
              · exact .inl (.inl h)
              · exact .inr h
            · exact .inl (.inr hb)⟩
      · have hne : (c8 == 0) = false := beq_eq_false_iff_ne.2 hc8
        have hne2 : (c8 != 0) = true := by simp [bne, hne]
        go_wp2_with fail
        go_ret
        have hr : addD D l ⟨nm, q⟩ b8 = (c8, D8, l) := by rw [Hadd8.out]; simp [hc8]
        refine ⟨b8, F8, Hb8.out, ret_int (by rw [hr]), ?_, ?_, ?_, hF8, ?_⟩
        · rw [hr]; exact H8.out
        · rw [hr]; exact HT.out.step H.out hF S8.out
        rotate_left
        · rw [hr]
          exact ⟨_, T8.out, row_disk H.out Hrow.out S8.out, fun g hg => .inl ⟨_, HTv.out, hg⟩⟩
        · exact ⟨S8.out.keeps.mono (fun b _ hb => .inl hb), fun b hb => by
            rcases hb with hb | hb
            · rcases S8.out.foot b hb with h | h
              · exact .inl (.inl h)
              · exact .inr h
            · exact .inl (.inr hb)⟩
  · have hne : (c == 0) = false := beq_eq_false_iff_ne.2 hc0
    have hne2 : (c != 0) = true := by simp [bne, hne]
    go_wp2_with fail
    go_ret
    have hr : addD D l ⟨nm, q⟩ w.heap.size = (c, D, l) := by unfold addD; rw [Hc.out, if_pos hc0]
    refine ⟨w.heap.size, F, Nat.le_refl _, ret_int (by rw [hr]), ?_, ?_, Step.of_calm (HC1.out.trans HC2.out), hF, ?_⟩
    · rw [hr]; exact (H.out.calm (HC1.out.trans HC2.out)).mono (Nat.le_succ _)
    · rw [hr]; exact HT.out.calm (HC1.out.trans HC2.out)
    · rw [hr]
      exact ⟨_, heap_calm (HC1.out.trans HC2.out) HTv.out, own_calm Hrow.out (HC1.out.trans HC2.out), fun g hg => .inl ⟨_, HTv.out, hg⟩⟩
end
end Go.Proofs.YtccbfekajbnehaaGreat.tp
