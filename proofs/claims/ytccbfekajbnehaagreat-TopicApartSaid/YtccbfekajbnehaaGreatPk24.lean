/- Layer 13: Open; Add. -/
import Derived.Test.YtccbfekajbnehaaGreatRows
import Derived.WalkKit
import Derived.ProofKit
import Derived.OpenShut
import Derived.Handy
import Derived.Deep.LoopGhost
import Derived.Lib.Hide
import Derived.Lib.Strings
import Derived.SizedLaws
import Derived.Maps.Own
import Derived.Maps.OwnOps
import Derived.Maps.OwnSet
import Derived.Maps.RangeWalk
import Derived.Deep.QuietTactic
import Derived.BigQuiet
import Derived.Deep.RegionHeld3
import Derived.Lib.ConvBytes
import Derived.Lib.AppendZeros
import Derived.Lib.AppendZerosOnto
import Derived.Lib.LazyBuf
import Derived.Shelf.Abstract
import Derived.LaidEql
import Derived.Lib.SliceRun
import Derived.StillTailTactics
import Derived.Deep.Slices
import Derived.Shelf.Strings.Builder1
import Derived.Shelf.Small.Bits
import Derived.Shelf.Small.Wraps
import Derived.Shelf.Strings.BuilderF
import Derived.Shelf.Strings.BuilderK
import Derived.Shelf.Strconv.Itoa0
import Derived.Shelf.Sort.Plain
import Derived.Shelf.GgClosure.StringsIndexFunc
import Derived.Ground.GgwProg
import Derived.Shelf.GgClosure.StringsIndexFuncTop
import Derived.Shelf.GgClosure.StringsRunes
import Derived.Shelf.Strings.Prefix
import Derived.Shelf.Strings.BuilderCap
import Derived.Shelf.Slices.Turned
import Derived.Shelf.Slices.In.SortNone
import Derived.Ground.SlgfProg
import Derived.Shelf.SlicesE.IndexFunc
import Derived.Shelf.SlicesE.DeleteFunc
import Derived.Test.YtccbfekajbnehaaGreatProg
import Derived.Lib.DecodeN
import Derived.Shelf.SlicesQ.IndexFunc
import Derived.Shelf.SlicesE.Clone
import Derived.Ground.SlgnProg
import Derived.Laws.MakeOwn
import Derived.Lib.Builder
import Derived.Lib.AppendStr
import Derived.Laws.Rows
import Derived.Shelf.SlIter.Nil
import Derived.Ground.GgzProg
import Derived.Shelf.SortM.Plain
import Derived.Shelf.SortM.SortNone
import Derived.Ground.SlgmProg
import Derived.Laws.BitsLemmas
import Derived.Laws.ResultCell
import Derived.Laws.StructEq
import Derived.Laws.Cover3
import Derived.OwnWalk
import Derived.Deep.DeepCutAuto
import Derived.Deep.RegionLaw
import Derived.Deep.CutBlock
import Derived.Test.YtccbfekajbnehaaGreatPk23
namespace Go.Proofs.YtccbfekajbnehaaGreat.tp
open Go.ChangeShapes Go.WideShapes Go.ChangeAt Go.RowKit
open Go.Proofs.YtccbfekajbnehaaGreat.dk Go.Proofs.YtccbfekajbnehaaGreat.nm Go.Proofs.YtccbfekajbnehaaGreat.oc Go.Proofs.YtccbfekajbnehaaGreat.rc

theorem getN_few : ∀ (n : Nat) (R : Rdr) (l l' : List TopS) (R' : Rdr), getN n R l = some (l', R') → l.length ≤ 6 → (∀ x ∈ l, TopOk x) → l'.length ≤ 6 ∧ ∀ x ∈ l', TopOk x
  | 0, R, l, l', R', h, hl, hok => by
    unfold getN at h
    cases h
    exact ⟨hl, hok⟩
  | n + 1, R, l, l', R', h, hl, hok => by
    unfold getN at h
    split at h
    · cases h
    · rename_i hn
      obtain ⟨t, ht⟩ : ∃ t : TopS, ⟨(R.text 16).1, ((R.text 16).2.num 1).1⟩ = t := ⟨_, rfl⟩
      rw [ht] at h hn
      have hr : rightC l t = 0 := by
        by_cases h0 : rightC l t = 0
        · exact h0
        · exact absurd (.inr h0) hn
      unfold rightC at hr
      split at hr; cases hr
      rename_i h1
      split at hr; cases hr
      rename_i h2
      split at hr; cases hr
      split at hr; cases hr
      refine getN_few n _ _ l' R' h (by rw [List.length_append, List.length_singleton]; omega) (fun x hx => ?_)
      rcases List.mem_append.1 hx with hx | hx
      · exact hok x hx
      · rw [List.mem_singleton] at hx
        subst hx
        exact ⟨by simpa using h1, by omega, by omega⟩
theorem getT_few {s : ByteArray} {l : List TopS} (h : getT s = some l) : l.length ≤ 6 ∧ ∀ x ∈ l, TopOk x := by
  unfold getT at h
  split at h
  · cases h
  · rename_i l' R' hg
    split at h
    · cases h
      exact getN_few _ _ _ _ _ hg (Nat.zero_le _) (fun x hx => absurd hx List.not_mem_nil)
    · cases h
theorem calm_setc {a w : World} (h : Calm a w) {b k : Nat} (hp : a.heap.size ≤ b) (u : Value) : Calm a (w.setCell ⟨b, k, none⟩ u) :=
  ((Keeps.of_calm (F := fun b => a.heap.size ≤ b) h).setCell (p := ⟨b, k, none⟩) (.inr hp) u).below (Nat.le_refl _) (fun _ h => h)
/-- What Open finds. -/
def openT (D : DiskS) : Int × Option (List TopS) :=
  if (loadD D topicsN).2.2 ≠ 0 then ((loadD D topicsN).2.2, none) else if (loadD D topicsN).2.1 = false then (0, some []) else
  match getT (loadD D topicsN).1 with
  | none => (4, none)
  | some l => (0, some l)
def OpenDone (r : Int × Option (List TopS)) (p : Nat) (w : World) (e : Ending) (w' : World) : Prop := Calm w w' ∧ match r.2 with
  | none => e = .returned (.tuple #[.pointer none, .int .i64 r.1])
  | some l => ∃ t, e = .returned (.tuple #[ptrTo t, .int .i64 0]) ∧ Tbl w' t p l ∧ w.heap.size ≤ t
section
variable {p t n : Nat} {D : DiskS} {F : Nat → Prop} {l : List TopS}
set_option maxRecDepth 100000 in
set_option maxHeartbeats 4000000 in
theorem Open_tb (w : World) (h : DiskOk w p D F n) (hs : (D.all topicsN).1.size ≤ 1000000) (ht : (loadD D topicsN).1.size ≤ 1000000) :
    Calls Tryz.prog 12 #[ptrTo p] w (OpenDone (openT D) p w) := by
  have hload := box (Load_any topicsN w h hs)
  clear h hs
  unfold openT
  obtain ⟨⟨u, ok, c⟩, hr⟩ : ∃ r, loadD D topicsN = r := ⟨_, rfl⟩
  rw [hr] at hload ht ⊢
  simp only at hload ht ⊢
  clear hr
  by_cases hc : c = 0
  · subst hc
    rw [if_neg (fun h => h rfl)]
    cases ok
    · rw [if_pos rfl]
      go_enter Tryz.func12, Tryz.ntmps12
      go_wp2_with fail
      refine hload.out.mono ?_
      rintro e w1 ⟨rfl, hc1⟩
      have HC1 := box hc1
      clear hc1 hload
      go_wp2_with fail
      go_ret2
      exact ⟨HC1.out.alloc _, w1.heap.size, rfl, ⟨⟨_, heap_new w1 _, World.ownsRow_nil _ _ _ _⟩, Nat.zero_le _, fun x hx => absurd hx List.not_mem_nil⟩, HC1.out.size⟩
    · rw [if_neg (by decide)]
      have hget := box (fun W => get_any u W ht)
      have hfew := box (fun l h => (getT_few (s := u) (l := l) h))
      obtain ⟨G, hG⟩ : ∃ G, getT u = G := ⟨_, rfl⟩
      rw [hG] at hget hfew ⊢
      clear hG
      go_enter Tryz.func12, Tryz.ntmps12
      go_wp2_with fail
      refine hload.out.mono ?_
      rintro e w1 ⟨rfl, hc1⟩
      have HC1 := box hc1
      have hca := (Calm.refl w1).alloc (.cells #[ptrTo p, .slice none 0 0] 78)
      have hna := heap_new w1 (.cells #[ptrTo p, .slice none 0 0] 78)
      have HCa := box hca
      have Hna := box hna
      clear hc1 hload hca hna
      go_wp2_with fail
      refine (hget.out _).mono ?_
      rintro e w2 ⟨v, ok, rfl, hg, hc2⟩
      have j2 := heap_calm hc2 Hna.out
      have r1 := cell_of j2 1
      have f1 := free_of j2 1
      have jlt := heap_lt j2
      have HC2 := box hc2
      have J2 := box j2
      have HG := box hg
      clear hc2 hg j2
      cases G with
      | none =>
        obtain ⟨rfl, va, vm, vc, rfl⟩ := HG.out
        go_wp2_with fail
        go_ret2
        exact ⟨calm_setc (HC1.out.trans (HCa.out.trans HC2.out)) HC1.out.size _, rfl⟩
      | some l =>
        obtain ⟨rfl, hrow⟩ := HG.out
        obtain ⟨a, cap, rfl, _⟩ := topRow.tops hrow
        have Hrow := box hrow
        clear hrow
        go_wp2_with fail
        go_ret2
        refine ⟨calm_setc (HC1.out.trans (HCa.out.trans HC2.out)) HC1.out.size _, w1.heap.size, rfl, ⟨⟨_, heap_set J2.out 1 _, ?_⟩, (hfew.out l rfl).1, (hfew.out l rfl).2⟩, HC1.out.size⟩
        exact row_same (row_zero Hrow.out) (fun g hg => heap_set_other (fun e => by
          have := (Hrow.out.lt g hg).1
          rw [World.size_alloc] at this
          omega) 1 _)
  · rw [if_pos hc]
    have hne : (c == 0) = false := beq_eq_false_iff_ne.2 hc
    have hne2 : (c != 0) = true := by simp [bne, hne]
    go_enter Tryz.func12, Tryz.ntmps12
    go_wp2_with fail
    refine hload.out.mono ?_
    rintro e w1 ⟨rfl, hc1⟩
    have HC1 := box hc1
    clear hc1 hload
    go_wp2_with fail
    go_ret2
    exact ⟨HC1.out, rfl⟩
end
end Go.Proofs.YtccbfekajbnehaaGreat.tp

/- Layer 13: Add. -/
namespace Go.Proofs.YtccbfekajbnehaaGreat.tp
open Go.ChangeShapes Go.WideShapes Go.ChangeAt Go.RowKit
open Go.Proofs.YtccbfekajbnehaaGreat.dk Go.Proofs.YtccbfekajbnehaaGreat.nm Go.Proofs.YtccbfekajbnehaaGreat.oc Go.Proofs.YtccbfekajbnehaaGreat.rc

theorem append_topG (B : Nat) (w : World) (v : Value) (L : List TopS) (x : TopS) (g0 : Nat) (h : topRow B w v L) (hb : w.heap[g0]? = some (.cells #[.string x.name, .int .i64 x.queues] 40 (0, 0))) (hB : B ≤ w.heap.size) (hl : L.length ≤ 1000000) (ty : TypeId) :
    ∃ v' w', (Builtin.append_ #[35, 35] ty #[v, .slice (some ⟨g0, 0, none⟩) 1 1]).run Tryz.prog w = .ok v' w' ∧ topRow B w' v' (L ++ [x]) ∧
      Keeps (fun g => v.ownBlock = some g) w w' := by
  obtain ⟨i0, hi, hz0, hz1, hz2⟩ := info_parts infoTop
  obtain ⟨v', w', h1, h2, h3, h4⟩ := append_own (P := Tryz.prog) w 35 ty 40 i0 _ 2 24 Tryz.underlying35 hi hz0 hz1 hz2 (by kernel_rfl) (by decide) v L.length _ (row_zero h) ⟨g0, 0, none⟩ 1 1 (by decide) (encT x) rfl (fun j u hj => by
      rw [add_lit, cell_of hb]
      match j, hj with
      | 0, hj => exact hj
      | 1, hj => exact hj
      | k + 2, hj => simp [encT] at hj) (fun u hu => by
      rcases List.mem_cons.1 hu with rfl | hu
      · rfl
      rcases List.mem_cons.1 hu with rfl | hu
      · rfl
      cases hu) (by simp only [maxLen]; omega) (by omega)
  refine ⟨v', w', h1, ?_, h3.mono (fun b _ h => h)⟩
  show w'.ownsRow B _ 2 v' (L ++ [x]).length ((L ++ [x]).flatMap encT)
  refine row_base ?_ (fun g e => ?_)
  rotate_left
  · rcases h4 with h4 | h4
    · exact (h.lt g (h4.symm.trans e)).1
    · rw [h4] at e; cases e; exact hB
  rw [List.flatMap_append, List.length_append]
  simpa using h2
/-- append, as one step of a region that draws its order. -/
theorem step_append_run {P : Program} {ops : Array Oper} {o : Oper} {a : Act} {w : World} {K : Act → World → Prop} {Q : Exit → Act → World → Prop} {E : Prop}
    (hg : o.guard = none) (s x : Operand) (t : TypeId) (hop : o.op = Op.call { callee := Callee.builtin Builtin.append, args := #[s, x], argTypes := #[t, t] })
    (vs vx : Value) (hs : a.eval s = vs) (hx : a.eval x = vx) (v' : Value) (w' : World) (hrun : (Builtin.append_ #[t, t] o.type #[vs, vx]).run P w = .ok v' w') (hK : K (a.put o.dst v') w') :
    if Region.wanted o (yielded ops a.tmps) = true then Oper.wp P o a w K Q else E := by
  have hw : Region.wanted o (yielded ops a.tmps) = true := by simp [Region.wanted, hg]
  rw [if_pos hw]
  unfold Oper.wp
  simp [execOp, hop, resolve, invoke, builtin, hs, hx, hrun, Result.andThen]
  exact hK
/-- A row of topics is none of a disk's blocks. -/
theorem top_apart {w : World} {p n B : Nat} {D : DiskS} {F : Nat → Prop} {v : Value} {l : List TopS} (h : DiskOk w p D F n) (hr : topRow B w v l) {g : Nat} (hg : v.ownBlock = some g) : ¬ F g := fun hf => by
  obtain ⟨cur, hc⟩ := own_row hr hg
  obtain ⟨mb, wv, h1, rfl⟩ := h.lies
  rcases hf with rfl | rfl | hf | hf
  · rw [h1.obj] at hc; simp only [Option.some.injEq, Obj.cells.injEq] at hc; exact absurd hc.2.1 (by decide)
  · obtain ⟨es, c, hm, _⟩ := h1.map; rw [hm] at hc; cases hc
  · obtain ⟨c, hc2⟩ := own_row h1.waits hf; rw [hc2] at hc; simp only [Option.some.injEq, Obj.cells.injEq] at hc; exact absurd hc.2.1 (by decide)
  · obtain ⟨f, hf', rfl⟩ := List.mem_map.1 hf
    rw [h1.files f hf'] at hc; simp only [Option.some.injEq, Obj.cells.injEq] at hc; exact absurd hc.2.1 (by decide)
theorem row_disk {w w' : World} {p n B : Nat} {D : DiskS} {F F' : Nat → Prop} {v : Value} {l : List TopS} (h : DiskOk w p D F n) (hr : topRow B w v l) (s : Step F w F' w') : topRow B w' v l :=
  row_same hr (fun g hg => s.keeps.block g (hr.lt g hg).2 (top_apart h hr hg))
theorem Tbl.step {w w' : World} {p n t : Nat} {D : DiskS} {F F' : Nat → Prop} {l : List TopS} (hT : Tbl w t p l) (h : DiskOk w p D F n) (hF : ¬ F t) (s : Step F w F' w') : Tbl w' t p l := by
  obtain ⟨v, h1, h2⟩ := hT.at_
  exact ⟨⟨v, s.same h1 hF, row_disk h h2 s⟩, hT.few, hT.ok⟩
/-- What Add does. -/
def addD (D : DiskS) (l : List TopS) (x : TopS) (b : Nat) : Int × DiskS × List TopS :=
  if rightC l x ≠ 0 then (rightC l x, D, l) else
  if (saveD D topicsN ⟨(putL (l ++ [x])).toArray⟩ b).1 ≠ 0 then ((saveD D topicsN ⟨(putL (l ++ [x])).toArray⟩ b).1, (saveD D topicsN ⟨(putL (l ++ [x])).toArray⟩ b).2, l) else
  (0, (saveD D topicsN ⟨(putL (l ++ [x])).toArray⟩ b).2, l ++ [x])
def AddDone (D : DiskS) (p : Nat) (F : Nat → Prop) (n t : Nat) (l : List TopS) (x : TopS) (w : World) (e : Ending) (w' : World) : Prop :=
  ∃ b F', w.heap.size ≤ b ∧ e = .returned (.int .i64 (addD D l x b).1) ∧ DiskOk w' p (addD D l x b).2.1 F' (n + 1) ∧ Tbl w' t p (addD D l x b).2.2 ∧ Step (fun b => F b ∨ b = t) w (fun b => F' b ∨ b = t) w' ∧ ¬ F' t
theorem right_ok {l : List TopS} {x : TopS} (h : rightC l x = 0) : l.length < 6 ∧ TopOk x := by
  unfold rightC at h
  split at h; cases h
  rename_i h1
  split at h; cases h
  rename_i h2
  split at h; cases h
  split at h; cases h
  exact ⟨by omega, by simpa using h1, by omega, by omega⟩
theorem putL_le : ∀ l : List TopS, (∀ x ∈ l, TopOk x) → (l.flatMap topL).length ≤ 19 * l.length
  | [], _ => Nat.zero_le _
  | x :: l, h => by
    have h1 := putL_le l (fun y hy => h y (List.mem_cons_of_mem _ hy))
    have h2 := (h x List.mem_cons_self).size
    have h3 : (topL x).length = 3 + x.name.size := by unfold topL; rw [List.length_append, textL_length, low_length]; omega
    rw [List.flatMap_cons, List.length_append, List.length_cons, h3]
    omega
theorem putB_le {l : List TopS} (h : ∀ x ∈ l, TopOk x) : (⟨(putL l).toArray⟩ : ByteArray).size ≤ 1 + 19 * l.length := by
  have := putL_le l h
  rw [← size_toList]
  show (putL l).length ≤ _
  unfold putL
  rw [List.length_append, low_length]
  omega
section
variable {p t n : Nat} {D : DiskS} {F : Nat → Prop} {l : List TopS}
set_option maxRecDepth 100000 in
set_option maxHeartbeats 8000000 in
theorem Add_any (nm : ByteArray) (q : Int) (w : World) (h : DiskOk w p D F n) (hT : Tbl w t p l) (hF : ¬ F t) (hn : n ≤ 999980) (hf : ∀ f ∈ D.files, f.name.size ≤ maxLen) (hl : D.files.length ≤ 1000000) :
    Calls Tryz.prog 14 #[ptrTo t, .string nm, .int .i64 q] w (AddDone D p F n t l ⟨nm, q⟩ w) := by
  obtain ⟨v, hTv, hrow⟩ := hT.at_
  have hfew := hT.few
  obtain ⟨va, vc, rfl, _⟩ := hrow.tops
  have hc1 := (Calm.refl w).alloc (.cells #[.string nm, .int .i64 q] 40)
  have hn1 := heap_new w (.cells #[.string nm, .int .i64 q] 40)
  have H := box h
  have HT := box hT
  have HTv := box hTv
  have Hrow := box hrow
  have HC1 := box hc1
  have Hn1 := box hn1
  have hright := box (fun W (hc : Calm w W) => right_any (.slice va l.length vc) l ⟨nm, q⟩ W (hrow.tops.calm hc) (by omega))
  have hcells := box (fun W (hc : Calm (w.alloc (.cells #[.string nm, .int .i64 q] 40)) W) => (show W.cell? ⟨t, 0, none⟩ = some (ptrTo p) ∧ W.cell? ⟨t, 1, none⟩ = some (.slice va l.length vc) ∧ W.cell? ⟨w.heap.size, 0, none⟩ = some (.string nm) ∧ W.cell? ⟨w.heap.size, 1, none⟩ = some (.int .i64 q) from
    ⟨cell_of (heap_calm (hc1.trans hc) hTv) 0, cell_of (heap_calm (hc1.trans hc) hTv) 1, cell_of (heap_calm hc hn1) 0, cell_of (heap_calm hc hn1) 1⟩))
  obtain ⟨c, hc⟩ : ∃ c, rightC l ⟨nm, q⟩ = c := ⟨_, rfl⟩
  rw [hc] at hright
  have Hc := box hc
  have tlt := heap_lt hTv
  have c0 := cell_of (heap_calm hc1 hTv) 0
  have c1 := cell_of (heap_calm hc1 hTv) 1
  have k0 := cell_of hn1 0
  have k1 := cell_of hn1 1
  obtain ⟨w1, hw1⟩ : ∃ w1, w.alloc (.cells #[.string nm, .int .i64 q] 40) = w1 := ⟨_, rfl⟩
  rw [hw1] at hcells HC1 Hn1 c0 c1 k0 k1
  clear h hT hTv hrow hc1 hn1 hc
  go_enter Tryz.func14, Tryz.ntmps14
  go_upto_region 4 with fail
  clear hw1
  go_region_held3 (fun w' => w'.cell? ⟨t, 0, none⟩ = some (ptrTo p) ∧ w'.cell? ⟨t, 1, none⟩ = some (.slice va l.length vc) ∧ w'.cell? ⟨w.heap.size, 0, none⟩ = some (.string nm) ∧ w'.cell? ⟨w.heap.size, 1, none⟩ = some (.int .i64 q)) (first | go_keep | exact hcells.out _ (by (repeat' (first | (with_reducible exact Calm.refl _) | (with_reducible assumption) | (with_reducible refine Calm.drew ?_) | (with_reducible refine Calm.alloc ?_ _) | (with_reducible refine Calm.trans ?_ (by assumption)))))) ((go_at_call 38; refine (hright.out _ (HC1.out.trans (by (repeat' (first | (with_reducible exact Calm.refl _) | (with_reducible assumption) | (with_reducible refine Calm.drew ?_) | (with_reducible refine Calm.alloc ?_ _) | (with_reducible refine Calm.trans ?_ (by assumption))))))).mono ?_; rintro e w2 ⟨rfl, hc2⟩))
  have HC2 := box (show Calm w1 w2 by (repeat' (first | (with_reducible exact Calm.refl _) | (with_reducible assumption) | (with_reducible refine Calm.drew ?_) | (with_reducible refine Calm.alloc ?_ _) | (with_reducible refine Calm.trans ?_ (by assumption)))))
  clear hc2 hright c0 c1 k0 k1
  by_cases hc0 : c = 0
  · subst hc0
    obtain ⟨hl6, hxok⟩ := right_ok Hc.out
    have Hxok := box hxok
    have hclone := box (fun W (hc : Calm w1 W) => Clone_any (.slice va l.length vc) l W ((topRow.tops Hrow.out).calm (HC1.out.trans hc)) (by omega))
    have hl9 : l.length ≤ 1000000 := by omega
    have HS2 := box (Nat.le_trans HC1.out.size HC2.out.size)
    clear hxok
    go_upto_region 7 with fail
    go_cut [9] (fun s9 wx => ∃ a cap, s9 = .slice a (l.length + 1) cap ∧ topRow w.heap.size wx s9 (l ++ [⟨nm, q⟩]) ∧ Calm w1 wx)
    case first =>
      go_region_held3 (fun w' => w'.cell? ⟨t, 0, none⟩ = some (ptrTo p) ∧ w'.cell? ⟨t, 1, none⟩ = some (.slice va l.length vc) ∧ w'.cell? ⟨w.heap.size, 0, none⟩ = some (.string nm) ∧ w'.cell? ⟨w.heap.size, 1, none⟩ = some (.int .i64 q)) (first | go_keep | exact hcells.out _ (HC2.out.trans (by (repeat' (first | (with_reducible exact Calm.refl _) | (with_reducible assumption) | (with_reducible refine Calm.drew ?_) | (with_reducible refine Calm.alloc ?_ _) | (with_reducible refine Calm.trans ?_ (by assumption))))))) (first
        | (go_at_call 39; refine (hclone.out _ (HC2.out.trans (by (repeat' (first | (with_reducible exact Calm.refl _) | (with_reducible assumption) | (with_reducible refine Calm.drew ?_) | (with_reducible refine Calm.alloc ?_ _) | (with_reducible refine Calm.trans ?_ (by assumption))))))).mono ?_; rintro e wc ⟨vc2, rfl, hrc, hcc⟩)
        | (obtain ⟨v2, wd, happ, hrow2, hk2⟩ := append_topG w2.heap.size (wc.alloc (.cells #[.string nm, .int .i64 q] 40)) vc2 l ⟨nm, q⟩ wc.heap.size (own_calm hrc ((Calm.refl wc).alloc _)) (heap_new wc _) (Nat.le_trans hcc.size ((Calm.refl wc).alloc (.cells #[.string nm, .int .i64 q] 40)).size) hl9 35; have hcd : Calm w2 wd := Below.trans (show Calm w2 (wc.alloc (.cells #[.string nm, .int .i64 q] 40)) by (repeat' (first | (with_reducible exact Calm.refl _) | (with_reducible assumption) | (with_reducible refine Calm.drew ?_) | (with_reducible refine Calm.alloc ?_ _) | (with_reducible refine Calm.trans ?_ (by assumption))))) (hk2.below (Nat.le_trans hcc.size ((Calm.refl wc).alloc (.cells #[.string nm, .int .i64 q] 40)).size) (fun g hg => (hrc.lt g hg).1)); refine step_append_run rfl (.tmp 29) (.tmp 31) 35 rfl _ _ (by simp [Act.eval, Act.put]) (by simp [Act.eval, Act.put]) v2 wd happ ?_)
        | (obtain ⟨v2, wd, happ, hrow2, hk2⟩ := append_topG w2.heap.size wc vc2 l ⟨nm, q⟩ w2.heap.size (row_base (row_zero hrc) (fun g hg => Nat.le_trans ((Calm.refl w2).alloc (.cells #[.string nm, .int .i64 q] 40)).size (hrc.lt g hg).1)) (heap_calm hcc (heap_new _ _)) (Nat.le_trans ((Calm.refl w2).alloc (.cells #[.string nm, .int .i64 q] 40)).size hcc.size) hl9 35; have hcd : Calm w2 wd := Below.trans (show Calm w2 wc by (repeat' (first | (with_reducible exact Calm.refl _) | (with_reducible assumption) | (with_reducible refine Calm.drew ?_) | (with_reducible refine Calm.alloc ?_ _) | (with_reducible refine Calm.trans ?_ (by assumption))))) (hk2.below (Nat.le_trans ((Calm.refl w2).alloc (.cells #[.string nm, .int .i64 q] 40)).size hcc.size) (fun g hg => Nat.le_trans ((Calm.refl w2).alloc (.cells #[.string nm, .int .i64 q] 40)).size (hrc.lt g hg).1)); refine step_append_run rfl (.tmp 29) (.tmp 31) 35 rfl _ _ (by simp [Act.eval, Act.put]) (by simp [Act.eval, Act.put]) v2 wd happ ?_))
      all_goals
        obtain ⟨a9, cap9, hv9, _⟩ := topRow.tops hrow2
        rw [List.length_append, List.length_singleton] at hv9
        have Hr9 := box hrow2
        have Hcd := box hcd
        subst hv9
        clear hrow2 hcd happ hk2 hrc hcc
        go_wp2_with fail
        go_meet
        exact ⟨_, _, rfl, row_base (row_zero Hr9.out) (fun g hg => Nat.le_trans HS2.out (Hr9.out.lt g hg).1), HC2.out.trans Hcd.out⟩
    case rest =>
      obtain ⟨a9, cap9, rfl, hr9, hc9⟩ := hcut
      have hok9 : ∀ x ∈ l ++ [⟨nm, q⟩], TopOk x := fun x hx => by
        rcases List.mem_append.1 hx with hx | hx
        · exact HT.out.ok x hx
        · rw [List.mem_singleton] at hx; subst hx; exact Hxok.out
      have hlen9 : (l ++ [(⟨nm, q⟩ : TopS)]).length = l.length + 1 := by rw [List.length_append, List.length_singleton]
      have hus := putB_le hok9
      have hput := box (fun W (hc : Calm wc W) => put_any (.slice a9 (l.length + 1) cap9) (l ++ [⟨nm, q⟩]) W ((topRow.tops hr9).calm hc) (by rw [hlen9]; omega) hok9)
      rw [hlen9] at hus
      obtain ⟨u, hu⟩ : ∃ u : ByteArray, ⟨(putL (l ++ [⟨nm, q⟩])).toArray⟩ = u := ⟨_, rfl⟩
      have hadd : ∀ b, addD D l ⟨nm, q⟩ b = if (saveD D topicsN u b).1 ≠ 0 then ((saveD D topicsN u b).1, (saveD D topicsN u b).2, l) else (0, (saveD D topicsN u b).2, l ++ [⟨nm, q⟩]) := fun b => by
        unfold addD
        rw [Hc.out, if_neg (fun h => h rfl), hu]
      rw [hu] at hput hus
      have Hadd := box hadd
      have hcw := box (HC1.out.trans hc9)
      have hsave := box (fun W (hc : Calm wc W) => Save_any topicsN u W (H.out.calm (hcw.out.trans hc)) hn (by omega) (by decide) hf hl)
      have hT9 := box (fun W (hc : Calm wc W) => (show TblAt W t p (.slice va l.length vc) from heap_calm (hcw.out.trans hc) HTv.out))
      have Hr9 := box hr9
      have hg9 : _ ∧ _ ∧ _ ∧ _ := hcells.out wc hc9
      have c0 := hg9.1
      have HC9 := box hc9
      clear hr9 hc9 hu hadd hg9 hok9 hcells hclone
      go_upto_region 8 with fail
      go_region_held3 (fun w' => w'.cell? ⟨t, 0, none⟩ = some (ptrTo p)) (first | go_keep | exact cell_of (hs8.same (hT9.out _ (by (repeat' (first | (with_reducible exact Calm.refl _) | (with_reducible assumption) | (with_reducible refine Calm.drew ?_) | (with_reducible refine Calm.alloc ?_ _) | (with_reducible refine Calm.trans ?_ (by assumption)))))) hF) 0 | exact cell_of (hT9.out _ (by (repeat' (first | (with_reducible exact Calm.refl _) | (with_reducible assumption) | (with_reducible refine Calm.drew ?_) | (with_reducible refine Calm.alloc ?_ _) | (with_reducible refine Calm.trans ?_ (by assumption)))))) 0) (first
        | (go_at_call 40; refine (hput.out _ (by (repeat' (first | (with_reducible exact Calm.refl _) | (with_reducible assumption) | (with_reducible refine Calm.drew ?_) | (with_reducible refine Calm.alloc ?_ _) | (with_reducible refine Calm.trans ?_ (by assumption)))))).mono ?_; rintro e w7 ⟨rfl, hc7⟩)
        | (go_at_call 9; refine (hsave.out _ (by (repeat' (first | (with_reducible exact Calm.refl _) | (with_reducible assumption) | (with_reducible refine Calm.drew ?_) | (with_reducible refine Calm.alloc ?_ _) | (with_reducible refine Calm.trans ?_ (by assumption)))))).mono ?_; rintro e w8 ⟨b8, hb8, rfl, F8, h8, hs8⟩))
      have hcw7 : Calm wc w7 := by (repeat' (first | (with_reducible exact Calm.refl _) | (with_reducible assumption) | (with_reducible refine Calm.drew ?_) | (with_reducible refine Calm.alloc ?_ _) | (with_reducible refine Calm.trans ?_ (by assumption))))
      have S8 := box (Step.calm_left (hcw.out.trans hcw7) hs8)
      have T8 := box (hs8.same (hT9.out _ hcw7) hF)
      have R8 := box (row_disk (H.out.calm (hcw.out.trans hcw7)) (own_calm Hr9.out hcw7) hs8)
      have Hb8 := box (Nat.le_trans (Calm.trans hcw.out hcw7).size hb8)
      have H8 := box h8
      have hF8 : ¬ F8 t := fun hf => (hs8.foot t hf).elim hF (fun hx => by have := (Calm.trans hcw.out hcw7).size; omega)
      clear h8 hs8 hb8 hcw7 hc7 hput hsave
      obtain ⟨⟨c8, D8⟩, hr8⟩ : ∃ r, saveD D topicsN u b8 = r := ⟨_, rfl⟩
      rw [hr8] at H8 ⊢
      have hadd8 := Hadd.out b8
      rw [hr8] at hadd8
      have Hadd8 := box hadd8
      clear hadd8 hr8 Hadd
      simp only at H8 ⊢
      by_cases hc8 : c8 = 0
      · subst hc8
        have d1 := cell_of T8.out 1
        have g1 := free_of T8.out 1
        have tlt8 := heap_lt T8.out
        go_wp2_with fail
        go_ret
        have hr : addD D l ⟨nm, q⟩ b8 = (0, D8, l ++ [⟨nm, q⟩]) := by rw [Hadd8.out]; simp
        have hks : Keeps (fun b => b = t) w8 (w8.setCell ⟨t, 1, none⟩ (.slice a9 (l.length + 1) cap9)) := Keeps.setCell (F := fun b => b = t) (Keeps.refl _ _) (p := ⟨t, 1, none⟩) (.inl rfl) _
        refine ⟨b8, F8, Hb8.out, ret_int (by rw [hr]), ?_, ?_, ?_, hF8⟩
        · rw [hr]; exact H8.out.keep hks (fun b hb e => hF8 (e ▸ hb))
        · rw [hr]
          refine ⟨⟨_, heap_set T8.out 1 _, ?_⟩, by rw [List.length_append, List.length_singleton]; omega, fun x hx => ?_⟩
          · exact row_same (row_zero R8.out) (fun g hg => heap_set_other (fun e => by
              subst e
              obtain ⟨cur, hcur⟩ := own_row R8.out hg
              rw [T8.out] at hcur
              simp only [Option.some.injEq, Obj.cells.injEq] at hcur
              exact absurd hcur.2.1 (by decide)) 1 _)
          · rcases List.mem_append.1 hx with hx | hx
            · exact HT.out.ok x hx
            · rw [List.mem_singleton] at hx; subst hx; exact Hxok.out
        · exact ⟨Keeps.setCell (p := ⟨t, 1, none⟩) (Keeps.mono S8.out.keeps (fun b _ hb => .inl hb)) (.inl (.inr rfl)) _, fun b hb => by
            rcases hb with hb | hb
            · rcases S8.out.foot b hb with h | h
              · exact .inl (.inl h)
              · exact .inr h
            · exact .inl (.inr hb)⟩
      · have hne : (c8 == 0) = false := beq_eq_false_iff_ne.2 hc8
        have hne2 : (c8 != 0) = true := by simp [bne, hne]
        go_wp2_with fail
        go_ret
        have hr : addD D l ⟨nm, q⟩ b8 = (c8, D8, l) := by rw [Hadd8.out]; simp [hc8]
        refine ⟨b8, F8, Hb8.out, ret_int (by rw [hr]), ?_, ?_, ?_, hF8⟩
        · rw [hr]; exact H8.out
        · rw [hr]; exact HT.out.step H.out hF S8.out
        · exact ⟨S8.out.keeps.mono (fun b _ hb => .inl hb), fun b hb => by
            rcases hb with hb | hb
            · rcases S8.out.foot b hb with h | h
              · exact .inl (.inl h)
              · exact .inr h
            · exact .inl (.inr hb)⟩
  · have hne : (c == 0) = false := beq_eq_false_iff_ne.2 hc0
    have hne2 : (c != 0) = true := by simp [bne, hne]
    go_wp2_with fail
    go_ret
    have hr : addD D l ⟨nm, q⟩ w.heap.size = (c, D, l) := by unfold addD; rw [Hc.out, if_pos hc0]
    refine ⟨w.heap.size, F, Nat.le_refl _, ret_int (by rw [hr]), ?_, ?_, Step.of_calm (HC1.out.trans HC2.out), hF⟩
    · rw [hr]; exact (H.out.calm (HC1.out.trans HC2.out)).mono (Nat.le_succ _)
    · rw [hr]; exact HT.out.calm (HC1.out.trans HC2.out)
end
end Go.Proofs.YtccbfekajbnehaaGreat.tp

/- Layer 13: the laws' example. -/
namespace Go.Proofs.YtccbfekajbnehaaGreat.tp
open Go.ChangeShapes Go.WideShapes Go.ChangeAt Go.RowKit
open Go.Proofs.YtccbfekajbnehaaGreat.dk Go.Proofs.YtccbfekajbnehaaGreat.nm Go.Proofs.YtccbfekajbnehaaGreat.oc Go.Proofs.YtccbfekajbnehaaGreat.rc

abbrev aN : ByteArray := ⟨#[97]⟩
theorem new_has (c : Int) (n : ByteArray) : (new c).has n = false := rfl
theorem new_load (c : Int) : loadD (new c) topicsN = (⟨#[]⟩, false, 0) := rfl
theorem new_open (c : Int) : openT (new c) = (0, some []) := rfl
theorem a_right : rightC [] ⟨aN, 2⟩ = 0 := by decide
theorem fresh_ne (n : ByteArray) : n ++ freshN ≠ n := fun e => by
  have := congrArg ByteArray.size e
  rw [ByteArray.size_append] at this
  have : freshN.size = 4 := rfl
  omega
theorem a_add (b : Nat) : ∃ D, addD (new 1000) [] ⟨aN, 2⟩ b = (0, D, [⟨aN, 2⟩]) := by
  have hok : ∀ x ∈ [(⟨aN, 2⟩ : TopS)], TopOk x := fun x hx => by
    rw [List.mem_singleton] at hx; subst hx; exact (right_ok a_right).2
  have hs := putB_le hok
  obtain ⟨W', h1, _⟩ := save_ok (new_alive 1000) (nm := topicsN) (new_has 1000 _) (fresh_ne _) ⟨(putL [⟨aN, 2⟩]).toArray⟩ (by
    have hc : (new 1000).cap = 1000 := by decide
    have hz : (new 1000).size = 0 := rfl
    rw [hc, hz]
    simp only [List.length_singleton] at hs
    omega) b
  obtain ⟨D1, hD1⟩ : ∃ D1, saveD (new 1000) topicsN ⟨(putL [⟨aN, 2⟩]).toArray⟩ b = (0, D1) := ⟨_, h1⟩
  refine ⟨D1, ?_⟩
  unfold addD
  rw [a_right, if_neg (fun h => h rfl)]
  simp only [List.nil_append]
  rw [hD1]
  rfl
theorem a_check2 : checkT [⟨aN, 2⟩] aN 2 = 13 := by decide
theorem a_check1 : checkT [⟨aN, 2⟩] aN 1 = 0 := by decide
set_option maxRecDepth 100000 in
set_option maxHeartbeats 4000000 in
theorem awake_any (W : World) : Calls Tryz.prog 7 #[] W fun e W' => e = .returned (.bool true) ∧ Calm W W' := by
  go_enter Tryz.func7, Tryz.ntmps7
  go_wp2_with fail
  refine (New_ok _ 1000).mono ?_
  rintro e w1 ⟨p, F, rfl, h1, hc1, hF1⟩
  have O1 := box ((Owns.refl W).new hc1 hF1)
  have H1 := box h1
  clear h1 hc1 hF1
  go_wp2_with fail
  refine (Open_tb w1 H1.out (by decide) (by decide)).mono ?_
  rw [new_open]
  rintro e w2 ⟨hc2, t, rfl, hT, ht⟩
  have HT := box hT
  have O2 := box (O1.out.calm' hc2)
  have H2 := box (H1.out.calm hc2)
  have HFt := box (show ¬ F t from fun hf => by have := H1.out.foot_lt _ hf; omega)
  have Ht := box (show W.heap.size ≤ t from Nat.le_trans O1.out.calm.size ht)
  clear hc2 hT ht
  go_wp2_with fail
  refine (Add_any aN 2 w2 H2.out HT.out HFt.out (by decide) (fun f hf => by cases hf) (Nat.zero_le _)).mono ?_
  rintro e w3 ⟨b, F3, hb, rfl, hd, hT3, hs, hF3⟩
  obtain ⟨D3, hD3⟩ := a_add b
  rw [hD3] at hT3 ⊢
  have HT3 := box hT3
  have HC3 := box (show Calm W w3 from Below.trans O2.out.calm (hs.keeps.below O2.out.calm.size (fun x hx => hx.elim (O2.out.foot x) (fun e => e ▸ Ht.out))))
  clear hd hT3 hs hF3 hb hD3
  go_wp2_with fail
  refine (Check_any aN 2 w3 HT3.out).mono ?_
  rw [a_check2]
  rintro e w4 ⟨rfl, hc4⟩
  have HC4 := box (HC3.out.trans hc4)
  have HT4 := box (HT3.out.calm hc4)
  clear hc4
  go_wp2_with fail
  refine (Check_any aN 1 w4 HT4.out).mono ?_
  rw [a_check1]
  rintro e w5 ⟨rfl, hc5⟩
  have HC5 := box (HC4.out.trans hc5)
  clear hc5
  go_wp2_with fail
  go_ret
  exact ⟨ret_bool (by simp), HC5.out⟩
end Go.Proofs.YtccbfekajbnehaaGreat.tp

/- Layer 13, plain: texts saved under two names. -/
namespace Go.Proofs.YtccbfekajbnehaaGreat.tp
open Go.ChangeShapes Go.WideShapes Go.ChangeAt Go.RowKit
open Go.Proofs.YtccbfekajbnehaaGreat.dk Go.Proofs.YtccbfekajbnehaaGreat.nm Go.Proofs.YtccbfekajbnehaaGreat.oc Go.Proofs.YtccbfekajbnehaaGreat.rc

abbrev oneN : ByteArray := ⟨#[111, 110, 101]⟩
abbrev twoN : ByteArray := ⟨#[116, 119, 111]⟩
abbrev Pr := ByteArray × ByteArray
theorem open_seal (s : ByteArray) : openSeal (sealB s) = some s := by
  have h := seal_open s.data.toList
  have e : (⟨s.data.toList.toArray⟩ : ByteArray) = s := ba_ext rfl
  rw [e] at h
  exact h
structure Saves (D : DiskS) (L : List Pr) : Prop where
  alive : Alive D
  files : D.files.map (fun f => (f.name, f.now)) = L.map (fun x => (x.1, sealB x.2))
  nodup : (L.map (·.1)).Nodup
  names : ∀ x ∈ L, (x.1 = oneN ∨ x.1 = twoN) ∧ x.2.size ≤ 100
  cap : D.cap = 65536
theorem two_most : ∀ L : List ByteArray, L.Nodup → (∀ x ∈ L, x = oneN ∨ x = twoN) → L.length ≤ 2
  | [], _, _ => by simp
  | [_], _, _ => by simp
  | [_, _], _, _ => by simp
  | x :: y :: z :: l, hn, h => by
    have hx := h x (by simp)
    have hy := h y (by simp)
    have hz := h z (by simp)
    simp only [List.nodup_cons, List.mem_cons, not_or] at hn
    obtain ⟨⟨h1, h2, _⟩, ⟨h3, _⟩, _⟩ := hn
    rcases hx with rfl | rfl <;> rcases hy with rfl | rfl <;> rcases hz with rfl | rfl <;> simp_all
section
variable {D : DiskS} {L : List Pr}
theorem Saves.few (h : Saves D L) : L.length ≤ 2 := by
  have := two_most _ h.nodup (fun x hx => by
    obtain ⟨y, hy, rfl⟩ := List.mem_map.1 hx
    exact (h.names y hy).1)
  rwa [List.length_map] at this
theorem Saves.len (h : Saves D L) : D.files.length = L.length := by
  have := congrArg List.length h.files
  rwa [List.length_map, List.length_map] at this
theorem Saves.mem (h : Saves D L) {f : FileS} (hf : f ∈ D.files) : ∃ x ∈ L, f.name = x.1 ∧ f.now = sealB x.2 := by
  have h1 : (f.name, f.now) ∈ L.map (fun x => (x.1, sealB x.2)) := by rw [← h.files]; exact List.mem_map.2 ⟨f, hf, rfl⟩
  obtain ⟨x, hx, he⟩ := List.mem_map.1 h1
  simp only [Prod.mk.injEq] at he
  exact ⟨x, hx, he.1.symm, he.2.symm⟩
theorem Saves.name (h : Saves D L) {f : FileS} (hf : f ∈ D.files) : f.name.size = 3 := by
  obtain ⟨x, hx, hn, _⟩ := h.mem hf
  rw [hn]
  rcases (h.names x hx).1 with e | e <;> rw [e] <;> rfl
theorem total_le (L : List FileS) (m : Nat) (h : ∀ f ∈ L, f.now.size ≤ m) : total L ≤ m * L.length := by
  induction L with
  | nil => exact Nat.zero_le _
  | cons f L ih =>
    have h1 := ih (fun g hg => h g (List.mem_cons_of_mem _ hg))
    have h2 := h f List.mem_cons_self
    have : total (f :: L) = f.now.size + total L := rfl
    rw [this, List.length_cons, Nat.mul_succ]
    omega
theorem Saves.size (h : Saves D L) : D.size ≤ 208 := by
  have h1 := total_le D.files 104 (fun f hf => by
    obtain ⟨x, hx, _, hn⟩ := h.mem hf
    rw [hn, sealB_size]
    have := (h.names x hx).2
    omega)
  have h2 := h.len
  have h3 := h.few
  have : D.size = total D.files := rfl
  have : 104 * D.files.length ≤ 104 * 2 := Nat.mul_le_mul_left _ (by omega)
  omega
theorem Saves.next (h : Saves D L) (n s : ByteArray) (hn : n = oneN ∨ n = twoN) (hs : s.size ≤ 100) (b : Nat) :
    ∃ D', saveD D n s b = (0, D') ∧ Saves D' (L.filter (fun x => !decide (x.1 = n)) ++ [(n, s)]) := by
  have hx : D.has (n ++ freshN) = false := by
    cases hh : D.has (n ++ freshN) with
    | false => rfl
    | true =>
      obtain ⟨f, hf, he⟩ := (has_iff D _).1 hh
      have h1 := h.name hf
      rw [he, ByteArray.size_append] at h1
      have h2 : freshN.size = 4 := rfl
      omega
  obtain ⟨W', h1, _⟩ := save_ok h.alive hx (fresh_ne n) s (by rw [h.cap]; have := h.size; omega) b
  refine ⟨_, h1, ⟨h.alive.left, h.alive.down⟩, ?_, ?_, fun x hx => ?_, h.cap⟩
  · simp only [List.map_append, List.map_cons, List.map_nil]
    congr 1
    have e1 : (D.files.filter fun x => !decide (x.name = n)).map (fun f => (f.name, f.now)) = (D.files.map (fun f => (f.name, f.now))).filter (fun y => !decide (y.1 = n)) := by rw [List.filter_map]; rfl
    have e2 : (L.filter fun x => !decide (x.1 = n)).map (fun x => (x.1, sealB x.2)) = (L.map (fun x => (x.1, sealB x.2))).filter (fun y => !decide (y.1 = n)) := by rw [List.filter_map]; rfl
    rw [e1, e2, h.files]
  · rw [List.map_append, List.nodup_append]
    refine ⟨(h.nodup.sublist ((List.filter_sublist).map _)), by simp, fun a ha b hb e => ?_⟩
    simp only [List.map_cons, List.map_nil, List.mem_singleton] at hb
    obtain ⟨y, hy, rfl⟩ := List.mem_map.1 ha
    have := (List.mem_filter.1 hy).2
    simp only [Bool.not_eq_true', decide_eq_false_iff_not] at this
    exact this (e.trans hb)
  · rcases List.mem_append.1 hx with hx | hx
    · exact h.names x (List.mem_filter.1 hx).1
    · rw [List.mem_singleton] at hx; subst hx; exact ⟨hn, hs⟩
/-- What Load tells. -/
theorem Saves.load (h : Saves D L) {n s : ByteArray} (hm : (n, s) ∈ L) : loadD D n = (s, true, 0) := by
  have h1 : (n, sealB s) ∈ D.files.map (fun f => (f.name, f.now)) := by rw [h.files]; exact List.mem_map.2 ⟨_, hm, rfl⟩
  obtain ⟨f, hf, he⟩ := List.mem_map.1 h1
  simp only [Prod.mk.injEq] at he
  have hall : D.all n = (sealB s, 0) := by
    unfold DiskS.all
    rw [if_neg (by rw [h.alive.down]; exact Bool.false_ne_true)]
    cases hfd : D.find n with
    | none => exact absurd he.1 (find_none hfd f hf)
    | some g =>
      obtain ⟨hg, hgn⟩ := find_some hfd
      obtain ⟨x, hx, hxn, hxs⟩ := h.mem hg
      have hxe : x = (n, s) := by
        have hnd := h.nodup
        have h2 : x.1 = (n, s).1 := by rw [← hxn, hgn]
        exact nodup_inj hnd hx hm h2
      simp only
      rw [hxs, hxe]
  unfold loadD
  rw [hall]
  simp only [open_seal]
  rfl
theorem Saves.none (h : Saves D L) {n : ByteArray} (hm : ∀ x ∈ L, x.1 ≠ n) : loadD D n = (⟨#[]⟩, false, 0) := by
  have hall : D.all n = (⟨#[]⟩, 9) := by
    unfold DiskS.all
    rw [if_neg (by rw [h.alive.down]; exact Bool.false_ne_true)]
    cases hfd : D.find n with
    | none => rfl
    | some g =>
      obtain ⟨hg, hgn⟩ := find_some hfd
      obtain ⟨x, hx, hxn, _⟩ := h.mem hg
      exact absurd (hxn.symm.trans hgn) (hm x hx)
  unfold loadD
  rw [hall]
  rfl
theorem Saves.all (h : Saves D L) (n : ByteArray) : (D.all n).1.size ≤ 1000000 := by
  unfold DiskS.all
  rw [if_neg (by rw [h.alive.down]; exact Bool.false_ne_true)]
  cases hfd : D.find n with
  | none => exact Nat.zero_le _
  | some g =>
    obtain ⟨hg, _⟩ := find_some hfd
    obtain ⟨x, hx, _, hxs⟩ := h.mem hg
    simp only
    rw [hxs, sealB_size]
    have := (h.names x hx).2
    omega
end
end Go.Proofs.YtccbfekajbnehaaGreat.tp

/- TopicApart's walk. -/
namespace Go.Proofs.YtccbfekajbnehaaGreat.tapart
open Go.ChangeShapes Go.WideShapes Go.ChangeAt Go.RowKit
open Go.Proofs.YtccbfekajbnehaaGreat.dk Go.Proofs.YtccbfekajbnehaaGreat.tp

def encS (x : Pr) : Value × Value := (.string x.1, .string x.2)
theorem names_all (D : DiskS) : (D.names ⟨#[]⟩).length = D.files.length := by
  unfold DiskS.names DiskS.namesL
  rw [List.length_map, List.filter_eq_self.2 (fun x _ => by cases x <;> rfl)]
  simp
theorem look_cases {L : List Pr} (n : ByteArray) : (∃ s, (n, s) ∈ L) ∨ ∀ x ∈ L, x.1 ≠ n := by
  by_cases h : ∃ x ∈ L, x.1 = n
  · obtain ⟨⟨a, b⟩, hx, rfl⟩ := h
    exact .inl ⟨b, hx⟩
  · exact .inr (fun x hx e => h ⟨x, hx, e⟩)
section
variable {w : World} {mb : Nat} {L M : List Pr}
theorem map_look (h : MapIs w mb .string (M.map encS)) (hp : M.Perm L) {n s : ByteArray} (hm : (n, s) ∈ L) :
    (Instr.lookup 27 (.map (some mb)) (.string n) true).run Tryz.prog w = .ok (.tuple #[.string s, .bool true]) w := by
  have := h.hit (P := Tryz.prog) Tryz.underlying27 Tryz.underlying9 (key := .string n) (v := .string s) trivial (List.mem_map.2 ⟨(n, s), hp.mem_iff.2 hm, rfl⟩) true
  simpa using this
theorem map_none (h : MapIs w mb .string (M.map encS)) (hp : M.Perm L) {n : ByteArray} (hm : ∀ x ∈ L, x.1 ≠ n) :
    (Instr.lookup 27 (.map (some mb)) (.string n) true).run Tryz.prog w = .ok (.tuple #[.string ⟨#[]⟩, .bool false]) w := by
  have := h.miss (P := Tryz.prog) (z := .string ⟨#[]⟩) Tryz.underlying27 Tryz.underlying9 (key := .string n) trivial (by kernel_rfl) (fun x hx => by
    obtain ⟨y, hy, rfl⟩ := List.mem_map.1 hx
    have := hm y (hp.mem_iff.1 hy)
    simpa [encS] using this) true
  simpa using this
theorem map_set (h : MapIs w mb .string (M.map encS)) (hp : M.Perm L) (hn : (L.map (·.1)).Nodup) (n s : ByteArray) :
    ∃ (o : Obj) (M' : List Pr), (Instr.mapUpdate 27 (.map (some mb)) (.string n) (.string s)).run Tryz.prog w = .ok () (ChangeMaps.setBlock w mb o) ∧ MapIs (ChangeMaps.setBlock w mb o) mb .string (M'.map encS) ∧ M'.Perm (L.filter (fun x => !decide (x.1 = n)) ++ [(n, s)]) := by
  by_cases hm : ∃ x ∈ M, x.1 = n
  · obtain ⟨⟨_, v0⟩, hx, rfl⟩ := hm
    obtain ⟨m1, m2, rfl⟩ := List.append_of_mem hx
    rename_i n
    have hnd : ((m1 ++ (n, v0) :: m2).map (·.1)).Nodup := (hp.map (·.1)).nodup_iff.2 hn
    rw [List.map_append, List.map_cons] at h
    obtain ⟨o, h1, h2⟩ := MapIs.put (P := Tryz.prog) Tryz.underlying27 Tryz.underlying9 (key := .string n) (v0 := .string v0) h (.string s) trivial
    refine ⟨o, m1 ++ (n, s) :: m2, h1, by rw [List.map_append, List.map_cons]; exact h2, ?_⟩
    have hf := hp.filter (fun x => !decide (x.1 = n))
    have hne : ∀ x ∈ m1 ++ m2, x.1 ≠ n := fun x hx e => by
      rw [List.map_append, List.map_cons, List.nodup_append, List.nodup_cons] at hnd
      rcases List.mem_append.1 hx with hx | hx
      · exact hnd.2.2 x.1 (List.mem_map.2 ⟨x, hx, rfl⟩) n List.mem_cons_self e
      · exact hnd.2.1.1 (List.mem_map.2 ⟨x, hx, e⟩)
    have e1 : (m1 ++ (n, v0) :: m2).filter (fun x => !decide (x.1 = n)) = m1 ++ m2 := by
      rw [List.filter_append, List.filter_cons_of_neg (by simp), ← List.filter_append]
      exact List.filter_eq_self.2 (fun x hx => by simpa using hne x hx)
    rw [e1] at hf
    exact (List.perm_middle.trans ((hf.cons _).trans (List.perm_append_singleton _ _).symm))
  · have hno : ∀ x ∈ M, x.1 ≠ n := fun x hx e => hm ⟨x, hx, e⟩
    obtain ⟨o, h1, h2⟩ := h.add (P := Tryz.prog) Tryz.underlying27 Tryz.underlying9 (key := .string n) (.string s) trivial (fun x hx => by
      obtain ⟨y, hy, rfl⟩ := List.mem_map.1 hx
      have := hno y hy
      simpa [encS] using this)
    refine ⟨o, M ++ [(n, s)], h1, by rw [List.map_append]; exact h2, ?_⟩
    have e1 : L.filter (fun x => !decide (x.1 = n)) = L := List.filter_eq_self.2 (fun x hx => by simpa using hno x (hp.mem_iff.2 hx))
    rw [e1]
    exact hp.append_right _
theorem map_size (h : MapIs w mb .string (M.map encS)) (hp : M.Perm L) (ty : TypeId) : (Builtin.len_ #[27] ty #[.map (some mb)]).run Tryz.prog w = .ok (.int .i64 (L.length : Int)) w := by
  obtain ⟨es, c, hb, hs, he, hk⟩ := h
  have hl := congrArg List.length he
  rw [List.length_map, List.length_map, hp.length_eq] at hl
  simp [Builtin.len_, run_underlying Tryz.underlying27, MapKept.run_getObj_map hb, goInt, Result.andThen]
  have h2 : es.size = L.length := by simpa using hl
  rw [h2]
end
theorem RowsAt.bools {w : World} {v : Value} {l : List Bool} (h : RowsAt BoolR 1 w v l) : ∃ a cap, v = .slice a l.length cap ∧ l.length ≤ maxLen ∧ ∀ i (hi : i < l.length), ∃ b off, a = some ⟨b, off, none⟩ ∧ b < w.heap.size ∧
    w.cell? ⟨b, off + i, none⟩ = some (.bool l[i]) := by
  obtain ⟨a, cap, rfl, h2, h3, h4⟩ := h
  refine ⟨a, cap, rfl, by omega, fun i hi => ?_⟩
  obtain ⟨b, off, cs, e, hb, hl, hcell, hr⟩ := h4 i hi
  subst hr
  have := hcell 0 (by omega)
  simp only [Nat.mul_one, Nat.add_zero] at this
  exact ⟨b, off, e, hb, this⟩
set_option maxRecDepth 100000 in
set_option maxHeartbeats 60000000 in
theorem walk (W : World) (v : Value) (l : List ByteArray) (hv : StrsAt W v l) (z : ∀ s ∈ l, s.size ≤ reachBytes) (hml : l.length ≤ maxLen) (u : Value) (bs : List Bool) (rb : RowsAt BoolR 1 W u bs) :
    Calls Tryz.prog 3 #[v, u] W fun e W' => e = .returned (.bool true) ∧ Calm W W' := by
  obtain ⟨a, cap, rfl, hel⟩ := hv.uni
  obtain ⟨ba, bcap, rfl, hbl, hbel⟩ := tapart.RowsAt.bools rb
  have Hel := box hel
  have Hbel := box hbel
  unfold maxLen at hml hbl
  clear hel hbel rb hv z
  go_enter Tryz.func3, Tryz.ntmps3
  go_wp2_with fail
  refine (tp.awake_any _).mono ?_
  rintro e w1 ⟨rfl, hca⟩
  have O1 := box ((Owns.refl W).calm' hca)
  clear hca
  by_cases h40 : 40 < l.length
  · go_wp2_with fail
    go_ret
    exact ⟨rfl, O1.out.calm⟩
  · have hn : l.length ≤ 40 := by omega
    clear hml h40
    go_wp2_with fail
    refine (New_ok _ 65536).mono ?_
    rintro e w2 ⟨p, F, rfl, h2, hc2, hF2⟩
    have H2 := box h2
    have O2 := box (O1.out.new hc2 hF2)
    clear h2 hc2 hF2
    have HM := box (MapIs.made w2 .string)
    have hmm := @run_makeMap Tryz.prog
    have HC2 := box ((Calm.refl w2).alloc (.map #[] 0))
    obtain ⟨mb, hmb⟩ : ∃ mb, w2.heap.size = mb := ⟨_, rfl⟩
    have HFm := box (show ¬ F mb from fun hf => by have := H2.out.foot_lt _ hf; omega)
    have Hmb := box (show W.heap.size ≤ mb from hmb ▸ O2.out.calm.size)
    rw [hmb] at HM
    have Hcap := box (show (new 65536).cap = 65536 by decide)
    go_wp2_with fail
    clear hmb
    go_loopw [26] (fun iv wr => ∃ (k : Nat) (D : DiskS) (F : Nat → Prop) (L M : List Pr), k ≤ l.length ∧ iv = .int .i64 k ∧ DiskOk wr p D F k ∧ Saves D L ∧ MapIs wr mb .string (M.map encS) ∧ M.Perm L ∧ Owns W wr F ∧ ¬ F mb) (fun iv _ => l.length - (intOf iv).toNat)
    case atStart => exact ⟨0, _, F, [], [], Nat.zero_le _, rfl, H2.out.calm HC2.out, ⟨new_alive 65536, rfl, List.nodup_nil, fun x hx => absurd hx List.not_mem_nil, Hcap.out⟩, HM.out, .nil, O2.out.calm' HC2.out, HFm.out⟩
    case round =>
      clear HM H2 O1 O2 HFm HC2 hmm
      obtain ⟨k, D, F, L, M, hk, rfl, hD, hSv, hM, hP, hO, hFm⟩ := hrel
      have HD := box hD
      have HSv := box hSv
      have HM := box hM
      have HP := box hP
      have HO := box hO
      have HFm := box hFm
      clear hD hSv hM hP hO hFm
      obtain ⟨wo, hwo⟩ : ∃ wo : World, wo = wr := ⟨_, rfl⟩
      subst hwo
      by_cases hlt : k < l.length
      · obtain ⟨lb, loff, rfl, hlb, hc0⟩ := Hel.out k hlt
        have d0 := (HO.out.calm.cell (p := ⟨lb, loff + k, none⟩) hlb).trans hc0
        have hlbo := Nat.lt_of_lt_of_le hlb HO.out.calm.size
        obtain ⟨s, hs⟩ : ∃ s, l.getD k ByteArray.empty = s := ⟨_, rfl⟩
        rw [hs] at d0
        clear hs hc0
        by_cases hbig : 100 < s.size
        · go_wp2_with fail
          go_ret
          exact ⟨rfl, HO.out.calm⟩
        · have hs100 : s.size ≤ 100 := by omega
          by_cases hkb : k < bs.length
          · obtain ⟨bb, boff, rfl, hbb, hb0⟩ := Hbel.out k hkb
            have g0 := (HO.out.calm.cell (p := ⟨bb, boff + k, none⟩) hbb).trans hb0
            have hbbo := Nat.lt_of_lt_of_le hbb HO.out.calm.size
            obtain ⟨y, hy⟩ : ∃ y, bs[k] = y := ⟨_, rfl⟩
            rw [hy] at g0
            clear hy hb0
            cases y
            · go_wp2_with fail
              refine (Save_any oneN s wo HD.out (by omega) (by omega) (by decide) (fun f hf => by have := HSv.out.name hf; unfold maxLen; omega) (by have := HSv.out.len; have := HSv.out.few; omega)).mono ?_
              rintro e w5 ⟨b5, hb5, rfl, F5, h5, hs5⟩
              obtain ⟨D5, hD5, hS5⟩ := HSv.out.next oneN s (.inl rfl) (by omega) b5
              rw [hD5] at h5 ⊢
              have hmb5 : ¬ F5 mb := fun hf => (hs5.foot mb hf).elim HFm.out (fun hx => by have := HM.out.lt; omega)
              have hM5 := HM.out.same (hs5.keeps.block mb HM.out.lt HFm.out)
              obtain ⟨o, M5, hupd, hM6, hP5⟩ := map_set hM5 HP.out HSv.out.nodup oneN s
              have O5 := box (HO.out.step hs5)
              have hke : Keeps (fun b => b = mb) w5 (ChangeMaps.setBlock w5 mb o) := Keeps.setObj (F := fun b => b = mb) (Keeps.refl _ _) (.inl rfl) o
              have H6 := box (h5.keep hke (fun b hb e => hmb5 (e ▸ hb)))
              have HM6 := box hM6
              have HS5 := box hS5
              have O6 := box (show Owns W (ChangeMaps.setBlock w5 mb o) F5 from ⟨Below.trans O5.out.calm (hke.below O5.out.calm.size (fun b e => e ▸ Hmb.out)), O5.out.foot⟩)
              have Hmb5 := box hmb5
              have hsz6 : (ChangeMaps.setBlock w5 mb o).heap.size = w5.heap.size := by simp [ChangeMaps.setBlock]
              obtain ⟨L5, hL5⟩ : ∃ L5, L.filter (fun x => !decide (x.1 = oneN)) ++ [(oneN, s)] = L5 := ⟨_, rfl⟩
              rw [hL5] at HS5 hP5
              have HP5 := box hP5
              have Hn6 := box (heap_new (ChangeMaps.setBlock w5 mb o) (.cells #[.string oneN, .string twoN] 9))
              rw [hsz6] at Hn6
              clear h5 hs5 hb5 hD5 hS5 hM5 hke hM6 hmb5 hL5 hP5
              go_wp2_with fail
              go_loopw [54] (fun jv wr => ∃ j : Nat, j ≤ 2 ∧ jv = .int .i64 j ∧ Calm (ChangeMaps.setBlock w5 mb o) wr ∧ wr.heap[w5.heap.size]? = some (.cells #[.string oneN, .string twoN] 9 (0, 0))) (fun jv _ => 2 - (intOf jv).toNat)
              case atStart => exact ⟨0, by decide, rfl, (Calm.refl _).alloc _, Hn6.out⟩
              case round =>
                obtain ⟨j, hj, rfl, hc8, hl8⟩ := hrel
                have HC8 := box hc8
                have HL8 := box hl8
                have e0 := cell_of hl8 0
                have e1 := cell_of hl8 1
                have llt := heap_lt hl8
                clear hc8 hl8 hupd hsz6
                by_cases hj0 : j = 0
                · subst hj0
                  rcases look_cases (L := L5) oneN with ⟨xs, hxm⟩ | hno
                  · have hlook := map_look (HM6.out.calm HC8.out) HP5.out hxm
                    have hload := box (Load_any oneN wr (H6.out.calm HC8.out) (HS5.out.all _))
                    rw [HS5.out.load hxm] at hload
                    go_wp2_with fail
                    refine hload.out.mono ?_
                    rintro e w9 ⟨rfl, hc9⟩
                    have HC9 := box (HC8.out.trans hc9)
                    have HL9 := box (heap_calm hc9 HL8.out)
                    clear hc9 hload hlook
                    go_wp2_with (first | go_quiet (fail) | fail)
                    go_roundw
                    case rel => exact ⟨1, by decide, rfl, HC9.out, HL9.out⟩
                    case measure => simp [intOf]
                  · have hlook := map_none (HM6.out.calm HC8.out) HP5.out hno
                    have hload := box (Load_any oneN wr (H6.out.calm HC8.out) (HS5.out.all _))
                    rw [HS5.out.none hno] at hload
                    go_wp2_with fail
                    refine hload.out.mono ?_
                    rintro e w9 ⟨rfl, hc9⟩
                    have HC9 := box (HC8.out.trans hc9)
                    have HL9 := box (heap_calm hc9 HL8.out)
                    clear hc9 hload hlook
                    go_wp2_with (first | go_quiet (fail) | fail)
                    go_roundw
                    case rel => exact ⟨1, by decide, rfl, HC9.out, HL9.out⟩
                    case measure => simp [intOf]
                by_cases hj1 : j = 1
                · subst hj1
                  rcases look_cases (L := L5) twoN with ⟨xs, hxm⟩ | hno
                  · have hlook := map_look (HM6.out.calm HC8.out) HP5.out hxm
                    have hload := box (Load_any twoN wr (H6.out.calm HC8.out) (HS5.out.all _))
                    rw [HS5.out.load hxm] at hload
                    go_wp2_with fail
                    refine hload.out.mono ?_
                    rintro e w9 ⟨rfl, hc9⟩
                    have HC9 := box (HC8.out.trans hc9)
                    have HL9 := box (heap_calm hc9 HL8.out)
                    clear hc9 hload hlook
                    go_wp2_with (first | go_quiet (fail) | fail)
                    go_roundw
                    case rel => exact ⟨2, by decide, rfl, HC9.out, HL9.out⟩
                    case measure => simp [intOf]
                  · have hlook := map_none (HM6.out.calm HC8.out) HP5.out hno
                    have hload := box (Load_any twoN wr (H6.out.calm HC8.out) (HS5.out.all _))
                    rw [HS5.out.none hno] at hload
                    go_wp2_with fail
                    refine hload.out.mono ?_
                    rintro e w9 ⟨rfl, hc9⟩
                    have HC9 := box (HC8.out.trans hc9)
                    have HL9 := box (heap_calm hc9 HL8.out)
                    clear hc9 hload hlook
                    go_wp2_with (first | go_quiet (fail) | fail)
                    go_roundw
                    case rel => exact ⟨2, by decide, rfl, HC9.out, HL9.out⟩
                    case measure => simp [intOf]
                · obtain rfl : j = 2 := by omega
                  go_wp2_with fail
                  go_roundw
                  case rel => exact ⟨k + 1, _, F5, L5, M5, by omega, by go_num, H6.out.calm HC8.out, HS5.out, HM6.out.calm HC8.out, HP5.out, O6.out.calm' HC8.out, Hmb5.out⟩
                  case measure => simp [intOf]; omega
            · go_wp2_with fail
              refine (Save_any twoN s wo HD.out (by omega) (by omega) (by decide) (fun f hf => by have := HSv.out.name hf; unfold maxLen; omega) (by have := HSv.out.len; have := HSv.out.few; omega)).mono ?_
              rintro e w5 ⟨b5, hb5, rfl, F5, h5, hs5⟩
              obtain ⟨D5, hD5, hS5⟩ := HSv.out.next twoN s (.inr rfl) (by omega) b5
              rw [hD5] at h5 ⊢
              have hmb5 : ¬ F5 mb := fun hf => (hs5.foot mb hf).elim HFm.out (fun hx => by have := HM.out.lt; omega)
              have hM5 := HM.out.same (hs5.keeps.block mb HM.out.lt HFm.out)
              obtain ⟨o, M5, hupd, hM6, hP5⟩ := map_set hM5 HP.out HSv.out.nodup twoN s
              have O5 := box (HO.out.step hs5)
              have hke : Keeps (fun b => b = mb) w5 (ChangeMaps.setBlock w5 mb o) := Keeps.setObj (F := fun b => b = mb) (Keeps.refl _ _) (.inl rfl) o
              have H6 := box (h5.keep hke (fun b hb e => hmb5 (e ▸ hb)))
              have HM6 := box hM6
              have HS5 := box hS5
              have O6 := box (show Owns W (ChangeMaps.setBlock w5 mb o) F5 from ⟨Below.trans O5.out.calm (hke.below O5.out.calm.size (fun b e => e ▸ Hmb.out)), O5.out.foot⟩)
              have Hmb5 := box hmb5
              have hsz6 : (ChangeMaps.setBlock w5 mb o).heap.size = w5.heap.size := by simp [ChangeMaps.setBlock]
              obtain ⟨L5, hL5⟩ : ∃ L5, L.filter (fun x => !decide (x.1 = twoN)) ++ [(twoN, s)] = L5 := ⟨_, rfl⟩
              rw [hL5] at HS5 hP5
              have HP5 := box hP5
              have Hn6 := box (heap_new (ChangeMaps.setBlock w5 mb o) (.cells #[.string oneN, .string twoN] 9))
              rw [hsz6] at Hn6
              clear h5 hs5 hb5 hD5 hS5 hM5 hke hM6 hmb5 hL5 hP5
              go_wp2_with fail
              go_loopw [54] (fun jv wr => ∃ j : Nat, j ≤ 2 ∧ jv = .int .i64 j ∧ Calm (ChangeMaps.setBlock w5 mb o) wr ∧ wr.heap[w5.heap.size]? = some (.cells #[.string oneN, .string twoN] 9 (0, 0))) (fun jv _ => 2 - (intOf jv).toNat)
              case atStart => exact ⟨0, by decide, rfl, (Calm.refl _).alloc _, Hn6.out⟩
              case round =>
                obtain ⟨j, hj, rfl, hc8, hl8⟩ := hrel
                have HC8 := box hc8
                have HL8 := box hl8
                have e0 := cell_of hl8 0
                have e1 := cell_of hl8 1
                have llt := heap_lt hl8
                clear hc8 hl8 hupd hsz6
                by_cases hj0 : j = 0
                · subst hj0
                  rcases look_cases (L := L5) oneN with ⟨xs, hxm⟩ | hno
                  · have hlook := map_look (HM6.out.calm HC8.out) HP5.out hxm
                    have hload := box (Load_any oneN wr (H6.out.calm HC8.out) (HS5.out.all _))
                    rw [HS5.out.load hxm] at hload
                    go_wp2_with fail
                    refine hload.out.mono ?_
                    rintro e w9 ⟨rfl, hc9⟩
                    have HC9 := box (HC8.out.trans hc9)
                    have HL9 := box (heap_calm hc9 HL8.out)
                    clear hc9 hload hlook
                    go_wp2_with (first | go_quiet (fail) | fail)
                    go_roundw
                    case rel => exact ⟨1, by decide, rfl, HC9.out, HL9.out⟩
                    case measure => simp [intOf]
                  · have hlook := map_none (HM6.out.calm HC8.out) HP5.out hno
                    have hload := box (Load_any oneN wr (H6.out.calm HC8.out) (HS5.out.all _))
                    rw [HS5.out.none hno] at hload
                    go_wp2_with fail
                    refine hload.out.mono ?_
                    rintro e w9 ⟨rfl, hc9⟩
                    have HC9 := box (HC8.out.trans hc9)
                    have HL9 := box (heap_calm hc9 HL8.out)
                    clear hc9 hload hlook
                    go_wp2_with (first | go_quiet (fail) | fail)
                    go_roundw
                    case rel => exact ⟨1, by decide, rfl, HC9.out, HL9.out⟩
                    case measure => simp [intOf]
                by_cases hj1 : j = 1
                · subst hj1
                  rcases look_cases (L := L5) twoN with ⟨xs, hxm⟩ | hno
                  · have hlook := map_look (HM6.out.calm HC8.out) HP5.out hxm
                    have hload := box (Load_any twoN wr (H6.out.calm HC8.out) (HS5.out.all _))
                    rw [HS5.out.load hxm] at hload
                    go_wp2_with fail
                    refine hload.out.mono ?_
                    rintro e w9 ⟨rfl, hc9⟩
                    have HC9 := box (HC8.out.trans hc9)
                    have HL9 := box (heap_calm hc9 HL8.out)
                    clear hc9 hload hlook
                    go_wp2_with (first | go_quiet (fail) | fail)
                    go_roundw
                    case rel => exact ⟨2, by decide, rfl, HC9.out, HL9.out⟩
                    case measure => simp [intOf]
                  · have hlook := map_none (HM6.out.calm HC8.out) HP5.out hno
                    have hload := box (Load_any twoN wr (H6.out.calm HC8.out) (HS5.out.all _))
                    rw [HS5.out.none hno] at hload
                    go_wp2_with fail
                    refine hload.out.mono ?_
                    rintro e w9 ⟨rfl, hc9⟩
                    have HC9 := box (HC8.out.trans hc9)
                    have HL9 := box (heap_calm hc9 HL8.out)
                    clear hc9 hload hlook
                    go_wp2_with (first | go_quiet (fail) | fail)
                    go_roundw
                    case rel => exact ⟨2, by decide, rfl, HC9.out, HL9.out⟩
                    case measure => simp [intOf]
                · obtain rfl : j = 2 := by omega
                  go_wp2_with fail
                  go_roundw
                  case rel => exact ⟨k + 1, _, F5, L5, M5, by omega, by go_num, H6.out.calm HC8.out, HS5.out, HM6.out.calm HC8.out, HP5.out, O6.out.calm' HC8.out, Hmb5.out⟩
                  case measure => simp [intOf]; omega
          · go_wp2_with fail
            refine (Save_any oneN s wo HD.out (by omega) (by omega) (by decide) (fun f hf => by have := HSv.out.name hf; unfold maxLen; omega) (by have := HSv.out.len; have := HSv.out.few; omega)).mono ?_
            rintro e w5 ⟨b5, hb5, rfl, F5, h5, hs5⟩
            obtain ⟨D5, hD5, hS5⟩ := HSv.out.next oneN s (.inl rfl) (by omega) b5
            rw [hD5] at h5 ⊢
            have hmb5 : ¬ F5 mb := fun hf => (hs5.foot mb hf).elim HFm.out (fun hx => by have := HM.out.lt; omega)
            have hM5 := HM.out.same (hs5.keeps.block mb HM.out.lt HFm.out)
            obtain ⟨o, M5, hupd, hM6, hP5⟩ := map_set hM5 HP.out HSv.out.nodup oneN s
            have O5 := box (HO.out.step hs5)
            have hke : Keeps (fun b => b = mb) w5 (ChangeMaps.setBlock w5 mb o) := Keeps.setObj (F := fun b => b = mb) (Keeps.refl _ _) (.inl rfl) o
            have H6 := box (h5.keep hke (fun b hb e => hmb5 (e ▸ hb)))
            have HM6 := box hM6
            have HS5 := box hS5
            have O6 := box (show Owns W (ChangeMaps.setBlock w5 mb o) F5 from ⟨Below.trans O5.out.calm (hke.below O5.out.calm.size (fun b e => e ▸ Hmb.out)), O5.out.foot⟩)
            have Hmb5 := box hmb5
            have hsz6 : (ChangeMaps.setBlock w5 mb o).heap.size = w5.heap.size := by simp [ChangeMaps.setBlock]
            obtain ⟨L5, hL5⟩ : ∃ L5, L.filter (fun x => !decide (x.1 = oneN)) ++ [(oneN, s)] = L5 := ⟨_, rfl⟩
            rw [hL5] at HS5 hP5
            have HP5 := box hP5
            have Hn6 := box (heap_new (ChangeMaps.setBlock w5 mb o) (.cells #[.string oneN, .string twoN] 9))
            rw [hsz6] at Hn6
            clear h5 hs5 hb5 hD5 hS5 hM5 hke hM6 hmb5 hL5 hP5
            go_wp2_with fail
            go_loopw [54] (fun jv wr => ∃ j : Nat, j ≤ 2 ∧ jv = .int .i64 j ∧ Calm (ChangeMaps.setBlock w5 mb o) wr ∧ wr.heap[w5.heap.size]? = some (.cells #[.string oneN, .string twoN] 9 (0, 0))) (fun jv _ => 2 - (intOf jv).toNat)
            case atStart => exact ⟨0, by decide, rfl, (Calm.refl _).alloc _, Hn6.out⟩
            case round =>
              obtain ⟨j, hj, rfl, hc8, hl8⟩ := hrel
              have HC8 := box hc8
              have HL8 := box hl8
              have e0 := cell_of hl8 0
              have e1 := cell_of hl8 1
              have llt := heap_lt hl8
              clear hc8 hl8 hupd hsz6
              by_cases hj0 : j = 0
              · subst hj0
                rcases look_cases (L := L5) oneN with ⟨xs, hxm⟩ | hno
                · have hlook := map_look (HM6.out.calm HC8.out) HP5.out hxm
                  have hload := box (Load_any oneN wr (H6.out.calm HC8.out) (HS5.out.all _))
                  rw [HS5.out.load hxm] at hload
                  go_wp2_with fail
                  refine hload.out.mono ?_
                  rintro e w9 ⟨rfl, hc9⟩
                  have HC9 := box (HC8.out.trans hc9)
                  have HL9 := box (heap_calm hc9 HL8.out)
                  clear hc9 hload hlook
                  go_wp2_with (first | go_quiet (fail) | fail)
                  go_roundw
                  case rel => exact ⟨1, by decide, rfl, HC9.out, HL9.out⟩
                  case measure => simp [intOf]
                · have hlook := map_none (HM6.out.calm HC8.out) HP5.out hno
                  have hload := box (Load_any oneN wr (H6.out.calm HC8.out) (HS5.out.all _))
                  rw [HS5.out.none hno] at hload
                  go_wp2_with fail
                  refine hload.out.mono ?_
                  rintro e w9 ⟨rfl, hc9⟩
                  have HC9 := box (HC8.out.trans hc9)
                  have HL9 := box (heap_calm hc9 HL8.out)
                  clear hc9 hload hlook
                  go_wp2_with (first | go_quiet (fail) | fail)
                  go_roundw
                  case rel => exact ⟨1, by decide, rfl, HC9.out, HL9.out⟩
                  case measure => simp [intOf]
              by_cases hj1 : j = 1
              · subst hj1
                rcases look_cases (L := L5) twoN with ⟨xs, hxm⟩ | hno
                · have hlook := map_look (HM6.out.calm HC8.out) HP5.out hxm
                  have hload := box (Load_any twoN wr (H6.out.calm HC8.out) (HS5.out.all _))
                  rw [HS5.out.load hxm] at hload
                  go_wp2_with fail
                  refine hload.out.mono ?_
                  rintro e w9 ⟨rfl, hc9⟩
                  have HC9 := box (HC8.out.trans hc9)
                  have HL9 := box (heap_calm hc9 HL8.out)
                  clear hc9 hload hlook
                  go_wp2_with (first | go_quiet (fail) | fail)
                  go_roundw
                  case rel => exact ⟨2, by decide, rfl, HC9.out, HL9.out⟩
                  case measure => simp [intOf]
                · have hlook := map_none (HM6.out.calm HC8.out) HP5.out hno
                  have hload := box (Load_any twoN wr (H6.out.calm HC8.out) (HS5.out.all _))
                  rw [HS5.out.none hno] at hload
                  go_wp2_with fail
                  refine hload.out.mono ?_
                  rintro e w9 ⟨rfl, hc9⟩
                  have HC9 := box (HC8.out.trans hc9)
                  have HL9 := box (heap_calm hc9 HL8.out)
                  clear hc9 hload hlook
                  go_wp2_with (first | go_quiet (fail) | fail)
                  go_roundw
                  case rel => exact ⟨2, by decide, rfl, HC9.out, HL9.out⟩
                  case measure => simp [intOf]
              · obtain rfl : j = 2 := by omega
                go_wp2_with fail
                go_roundw
                case rel => exact ⟨k + 1, _, F5, L5, M5, by omega, by go_num, H6.out.calm HC8.out, HS5.out, HM6.out.calm HC8.out, HP5.out, O6.out.calm' HC8.out, Hmb5.out⟩
                case measure => simp [intOf]; omega
      · obtain rfl : k = l.length := by omega
        have hlist := box (List_any ⟨#[]⟩ wo HD.out.lies (fun f hf => by have := HSv.out.name hf; unfold maxLen; omega) (by have := HSv.out.len; have := HSv.out.few; omega))
        unfold ListDone at hlist
        have hnl : (D.names ⟨#[]⟩).length = L.length := by rw [names_all, HSv.out.len]
        have Hnl := box hnl
        clear hnl
        go_wp2_with fail
        refine hlist.out.mono ?_
        rintro e w5 ⟨v5, rfl, hv5, hc5, _⟩
        obtain ⟨va, vc, hv, _⟩ := hv5.uni
        rw [Hnl.out] at hv
        subst hv
        have hlen := map_size (HM.out.calm hc5) HP.out
        have HC5 := box (HO.out.calm.trans hc5)
        clear hv5 hc5 hlist
        go_wp2_with fail
        go_ret
        exact ⟨ret_bool (by simp), HC5.out⟩
end Go.Proofs.YtccbfekajbnehaaGreat.tapart
