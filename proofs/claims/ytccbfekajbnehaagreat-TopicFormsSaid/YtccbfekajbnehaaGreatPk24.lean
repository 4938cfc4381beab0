/- Layer 13: Open; Add. -/
import Derived.Test.YtccbfekajbnehaaGreatRows
import Derived.WalkKit
import Derived.ProofKit
import Derived.OpenShut
import Derived.Handy
import Derived.Deep.LoopGhost
import Derived.Lib.Hide
import Derived.Lib.Strings
import Derived.SizedLaws
import Derived.Maps.Own
import Derived.Maps.OwnOps
import Derived.Maps.OwnSet
import Derived.Maps.RangeWalk
import Derived.Deep.QuietTactic
import Derived.BigQuiet
import Derived.Deep.RegionHeld3
import Derived.Lib.ConvBytes
import Derived.Lib.AppendZeros
import Derived.Lib.AppendZerosOnto
import Derived.Lib.LazyBuf
import Derived.Shelf.Abstract
import Derived.LaidEql
import Derived.Lib.SliceRun
import Derived.StillTailTactics
import Derived.Deep.Slices
import Derived.Shelf.Strings.Builder1
import Derived.Shelf.Small.Bits
import Derived.Shelf.Small.Wraps
import Derived.Shelf.Strings.BuilderF
import Derived.Shelf.Strings.BuilderK
import Derived.Shelf.Strconv.Itoa0
import Derived.Shelf.Sort.Plain
import Derived.Shelf.GgClosure.StringsIndexFunc
import Derived.Ground.GgwProg
import Derived.Shelf.GgClosure.StringsIndexFuncTop
import Derived.Shelf.GgClosure.StringsRunes
import Derived.Shelf.Strings.Prefix
import Derived.Shelf.Strings.BuilderCap
import Derived.Shelf.Slices.Turned
import Derived.Shelf.Slices.In.SortNone
import Derived.Ground.SlgfProg
import Derived.Shelf.SlicesE.IndexFunc
import Derived.Shelf.SlicesE.DeleteFunc
import Derived.Test.YtccbfekajbnehaaGreatProg
import Derived.Lib.DecodeN
import Derived.Shelf.SlicesQ.IndexFunc
import Derived.Shelf.SlicesE.Clone
import Derived.Ground.SlgnProg
import Derived.Laws.MakeOwn
import Derived.Lib.Builder
import Derived.Lib.AppendStr
import Derived.Laws.Rows
import Derived.Shelf.SlIter.Nil
import Derived.Ground.GgzProg
import Derived.Shelf.SortM.Plain
import Derived.Shelf.SortM.SortNone
import Derived.Ground.SlgmProg
import Derived.Laws.BitsLemmas
import Derived.Laws.ResultCell
import Derived.Laws.StructEq
import Derived.Laws.Cover3
import Derived.OwnWalk
import Derived.Deep.DeepCutAuto
import Derived.Deep.RegionLaw
import Derived.Deep.CutBlock
import Derived.Test.YtccbfekajbnehaaGreatPk23
namespace Go.Proofs.YtccbfekajbnehaaGreat.tp
open Go.ChangeShapes Go.WideShapes Go.ChangeAt Go.RowKit
open Go.Proofs.YtccbfekajbnehaaGreat.dk Go.Proofs.YtccbfekajbnehaaGreat.nm Go.Proofs.YtccbfekajbnehaaGreat.oc Go.Proofs.YtccbfekajbnehaaGreat.rc

theorem getN_few : ∀ (n : Nat) (R : Rdr) (l l' : List TopS) (R' : Rdr), getN n R l = some (l', R') → l.length ≤ 6 → (∀ x ∈ l, TopOk x) → l'.length ≤ 6 ∧ ∀ x ∈ l', TopOk x
  | 0, R, l, l', R', h, hl, hok => by
    unfold getN at h
    cases h
    exact ⟨hl, hok⟩
  | n + 1, R, l, l', R', h, hl, hok => by
    unfold getN at h
    split at h
    · cases h
    · rename_i hn
      obtain ⟨t, ht⟩ : ∃ t : TopS, ⟨(R.text 16).1, ((R.text 16).2.num 1).1⟩ = t := ⟨_, rfl⟩
      rw [ht] at h hn
      have hr : rightC l t = 0 := by
        by_cases h0 : rightC l t = 0
        · exact h0
        · exact absurd (.inr h0) hn
      unfold rightC at hr
      split at hr; cases hr
      rename_i h1
      split at hr; cases hr
      rename_i h2
      split at hr; cases hr
      split at hr; cases hr
      refine getN_few n _ _ l' R' h (by rw [List.length_append, List.length_singleton]; omega) (fun x hx => ?_)
      rcases List.mem_append.1 hx with hx | hx
      · exact hok x hx
      · rw [List.mem_singleton] at hx
        subst hx
        exact ⟨by simpa using h1, by omega, by omega⟩
theorem getT_few {s : ByteArray} {l : List TopS} (h : getT s = some l) : l.length ≤ 6 ∧ ∀ x ∈ l, TopOk x := by
  unfold getT at h
  split at h
  · cases h
  · rename_i l' R' hg
    split at h
    · cases h
      exact getN_few _ _ _ _ _ hg (Nat.zero_le _) (fun x hx => absurd hx List.not_mem_nil)
    · cases h
theorem calm_setc {a w : World} (h : Calm a w) {b k : Nat} (hp : a.heap.size ≤ b) (u : Value) : Calm a (w.setCell ⟨b, k, none⟩ u) :=
  ((Keeps.of_calm (F := fun b => a.heap.size ≤ b) h).setCell (p := ⟨b, k, none⟩) (.inr hp) u).below (Nat.le_refl _) (fun _ h => h)
/-- What Open finds. -/
def openT (D : DiskS) : Int × Option (List TopS) :=
  if (loadD D topicsN).2.2 ≠ 0 then ((loadD D topicsN).2.2, none) else if (loadD D topicsN).2.1 = false then (0, some []) else
  match getT (loadD D topicsN).1 with
  | none => (4, none)
  | some l => (0, some l)
def OpenDone (r : Int × Option (List TopS)) (p : Nat) (w : World) (e : Ending) (w' : World) : Prop := Calm w w' ∧ match r.2 with
  | none => e = .returned (.tuple #[.pointer none, .int .i64 r.1])
  | some l => ∃ t, e = .returned (.tuple #[ptrTo t, .int .i64 0]) ∧ Tbl w' t p l ∧ w.heap.size ≤ t
section
variable {p t n : Nat} {D : DiskS} {F : Nat → Prop} {l : List TopS}
set_option maxRecDepth 100000 in
set_option maxHeartbeats 4000000 in
theorem Open_tb (w : World) (h : DiskOk w p D F n) (hs : (D.all topicsN).1.size ≤ 1000000) (ht : (loadD D topicsN).1.size ≤ 1000000) :
    Calls Tryz.prog 12 #[ptrTo p] w (OpenDone (openT D) p w) := by
  have hload := box (Load_any topicsN w h hs)
  clear h hs
  unfold openT
  obtain ⟨⟨u, ok, c⟩, hr⟩ : ∃ r, loadD D topicsN = r := ⟨_, rfl⟩
  rw [hr] at hload ht ⊢
  simp only at hload ht ⊢
  clear hr
  by_cases hc : c = 0
  · subst hc
    rw [if_neg (fun h => h rfl)]
    cases ok
    · rw [if_pos rfl]
      go_enter Tryz.func12, Tryz.ntmps12
      go_wp2_with fail
      refine hload.out.mono ?_
      rintro e w1 ⟨rfl, hc1⟩
      have HC1 := box hc1
      clear hc1 hload
      go_wp2_with fail
      go_ret2
      exact ⟨HC1.out.alloc _, w1.heap.size, rfl, ⟨⟨_, heap_new w1 _, World.ownsRow_nil _ _ _ _⟩, Nat.zero_le _, fun x hx => absurd hx List.not_mem_nil⟩, HC1.out.size⟩
    · rw [if_neg (by decide)]
      have hget := box (fun W => get_any u W ht)
      have hfew := box (fun l h => (getT_few (s := u) (l := l) h))
      obtain ⟨G, hG⟩ : ∃ G, getT u = G := ⟨_, rfl⟩
      rw [hG] at hget hfew ⊢
      clear hG
      go_enter Tryz.func12, Tryz.ntmps12
      go_wp2_with fail
      refine hload.out.mono ?_
      rintro e w1 ⟨rfl, hc1⟩
      have HC1 := box hc1
      have hca := (Calm.refl w1).alloc (.cells #[ptrTo p, .slice none 0 0] 78)
      have hna := heap_new w1 (.cells #[ptrTo p, .slice none 0 0] 78)
      have HCa := box hca
      have Hna := box hna
      clear hc1 hload hca hna
      go_wp2_with fail
      refine (hget.out _).mono ?_
      rintro e w2 ⟨v, ok, rfl, hg, hc2⟩
      have j2 := heap_calm hc2 Hna.out
      have r1 := cell_of j2 1
      have f1 := free_of j2 1
      have jlt := heap_lt j2
      have HC2 := box hc2
      have J2 := box j2
      have HG := box hg
      clear hc2 hg j2
      cases G with
      | none =>
        obtain ⟨rfl, va, vm, vc, rfl⟩ := HG.out
        go_wp2_with fail
        go_ret2
        exact ⟨calm_setc (HC1.out.trans (HCa.out.trans HC2.out)) HC1.out.size _, rfl⟩
      | some l =>
        obtain ⟨rfl, hrow⟩ := HG.out
        obtain ⟨a, cap, rfl, _⟩ := topRow.tops hrow
        have Hrow := box hrow
        clear hrow
        go_wp2_with fail
        go_ret2
        refine ⟨calm_setc (HC1.out.trans (HCa.out.trans HC2.out)) HC1.out.size _, w1.heap.size, rfl, ⟨⟨_, heap_set J2.out 1 _, ?_⟩, (hfew.out l rfl).1, (hfew.out l rfl).2⟩, HC1.out.size⟩
        exact row_same (row_zero Hrow.out) (fun g hg => heap_set_other (fun e => by
          have := (Hrow.out.lt g hg).1
          rw [World.size_alloc] at this
          omega) 1 _)
  · rw [if_pos hc]
    have hne : (c == 0) = false := beq_eq_false_iff_ne.2 hc
    have hne2 : (c != 0) = true := by simp [bne, hne]
    go_enter Tryz.func12, Tryz.ntmps12
    go_wp2_with fail
    refine hload.out.mono ?_
    rintro e w1 ⟨rfl, hc1⟩
    have HC1 := box hc1
    clear hc1 hload
    go_wp2_with fail
    go_ret2
    exact ⟨HC1.out, rfl⟩
end
end Go.Proofs.YtccbfekajbnehaaGreat.tp

/- Layer 13: Add. -/
namespace Go.Proofs.YtccbfekajbnehaaGreat.tp
open Go.ChangeShapes Go.WideShapes Go.ChangeAt Go.RowKit
open Go.Proofs.YtccbfekajbnehaaGreat.dk Go.Proofs.YtccbfekajbnehaaGreat.nm Go.Proofs.YtccbfekajbnehaaGreat.oc Go.Proofs.YtccbfekajbnehaaGreat.rc

theorem append_topG (B : Nat) (w : World) (v : Value) (L : List TopS) (x : TopS) (g0 : Nat) (h : topRow B w v L) (hb : w.heap[g0]? = some (.cells #[.string x.name, .int .i64 x.queues] 40 (0, 0))) (hB : B ≤ w.heap.size) (hl : L.length ≤ 1000000) (ty : TypeId) :
    ∃ v' w', (Builtin.append_ #[35, 35] ty #[v, .slice (some ⟨g0, 0, none⟩) 1 1]).run Tryz.prog w = .ok v' w' ∧ topRow B w' v' (L ++ [x]) ∧
      Keeps (fun g => v.ownBlock = some g) w w' := by
  obtain ⟨i0, hi, hz0, hz1, hz2⟩ := info_parts infoTop
  obtain ⟨v', w', h1, h2, h3, h4⟩ := append_own (P := Tryz.prog) w 35 ty 40 i0 _ 2 24 Tryz.underlying35 hi hz0 hz1 hz2 (by kernel_rfl) (by decide) v L.length _ (row_zero h) ⟨g0, 0, none⟩ 1 1 (by decide) (encT x) rfl (fun j u hj => by
      rw [add_lit, cell_of hb]
      match j, hj with
      | 0, hj => exact hj
      | 1, hj => exact hj
      | k + 2, hj => simp [encT] at hj) (fun u hu => by
      rcases List.mem_cons.1 hu with rfl | hu
      · rfl
      rcases List.mem_cons.1 hu with rfl | hu
      · rfl
      cases hu) (by simp only [maxLen]; omega) (by omega)
  refine ⟨v', w', h1, ?_, h3.mono (fun b _ h => h)⟩
  show w'.ownsRow B _ 2 v' (L ++ [x]).length ((L ++ [x]).flatMap encT)
  refine row_base ?_ (fun g e => ?_)
  rotate_left
  · rcases h4 with h4 | h4
    · exact (h.lt g (h4.symm.trans e)).1
    · rw [h4] at e; cases e; exact hB
  rw [List.flatMap_append, List.length_append]
  simpa using h2
/-- append, as one step of a region that draws its order. -/
theorem step_append_run {P : Program} {ops : Array Oper} {o : Oper} {a : Act} {w : World} {K : Act → World → Prop} {Q : Exit → Act → World → Prop} {E : Prop}
    (hg : o.guard = none) (s x : Operand) (t : TypeId) (hop : o.op = Op.call { callee := Callee.builtin Builtin.append, args := #[s, x], argTypes := #[t, t] })
    (vs vx : Value) (hs : a.eval s = vs) (hx : a.eval x = vx) (v' : Value) (w' : World) (hrun : (Builtin.append_ #[t, t] o.type #[vs, vx]).run P w = .ok v' w') (hK : K (a.put o.dst v') w') :
    if Region.wanted o (yielded ops a.tmps) = true then Oper.wp P o a w K Q else E := by
  have hw : Region.wanted o (yielded ops a.tmps) = true := by simp [Region.wanted, hg]
  rw [if_pos hw]
  unfold Oper.wp
  simp [execOp, hop, resolve, invoke, builtin, hs, hx, hrun, Result.andThen]
  exact hK
/-- A row of topics is none of a disk's blocks. -/
theorem top_apart {w : World} {p n B : Nat} {D : DiskS} {F : Nat → Prop} {v : Value} {l : List TopS} (h : DiskOk w p D F n) (hr : topRow B w v l) {g : Nat} (hg : v.ownBlock = some g) : ¬ F g := fun hf => by
  obtain ⟨cur, hc⟩ := own_row hr hg
  obtain ⟨mb, wv, h1, rfl⟩ := h.lies
  rcases hf with rfl | rfl | hf | hf
  · rw [h1.obj] at hc; simp only [Option.some.injEq, Obj.cells.injEq] at hc; exact absurd hc.2.1 (by decide)
  · obtain ⟨es, c, hm, _⟩ := h1.map; rw [hm] at hc; cases hc
  · obtain ⟨c, hc2⟩ := own_row h1.waits hf; rw [hc2] at hc; simp only [Option.some.injEq, Obj.cells.injEq] at hc; exact absurd hc.2.1 (by decide)
  · obtain ⟨f, hf', rfl⟩ := List.mem_map.1 hf
    rw [h1.files f hf'] at hc; simp only [Option.some.injEq, Obj.cells.injEq] at hc; exact absurd hc.2.1 (by decide)
theorem row_disk {w w' : World} {p n B : Nat} {D : DiskS} {F F' : Nat → Prop} {v : Value} {l : List TopS} (h : DiskOk w p D F n) (hr : topRow B w v l) (s : Step F w F' w') : topRow B w' v l :=
  row_same hr (fun g hg => s.keeps.block g (hr.lt g hg).2 (top_apart h hr hg))
theorem Tbl.step {w w' : World} {p n t : Nat} {D : DiskS} {F F' : Nat → Prop} {l : List TopS} (hT : Tbl w t p l) (h : DiskOk w p D F n) (hF : ¬ F t) (s : Step F w F' w') : Tbl w' t p l := by
  obtain ⟨v, h1, h2⟩ := hT.at_
  exact ⟨⟨v, s.same h1 hF, row_disk h h2 s⟩, hT.few, hT.ok⟩
/-- What Add does. -/
def addD (D : DiskS) (l : List TopS) (x : TopS) (b : Nat) : Int × DiskS × List TopS :=
  if rightC l x ≠ 0 then (rightC l x, D, l) else
  if (saveD D topicsN ⟨(putL (l ++ [x])).toArray⟩ b).1 ≠ 0 then ((saveD D topicsN ⟨(putL (l ++ [x])).toArray⟩ b).1, (saveD D topicsN ⟨(putL (l ++ [x])).toArray⟩ b).2, l) else
  (0, (saveD D topicsN ⟨(putL (l ++ [x])).toArray⟩ b).2, l ++ [x])
def AddDone (D : DiskS) (p : Nat) (F : Nat → Prop) (n t : Nat) (l : List TopS) (x : TopS) (w : World) (e : Ending) (w' : World) : Prop :=
  ∃ b F', w.heap.size ≤ b ∧ e = .returned (.int .i64 (addD D l x b).1) ∧ DiskOk w' p (addD D l x b).2.1 F' (n + 1) ∧ Tbl w' t p (addD D l x b).2.2 ∧ Step (fun b => F b ∨ b = t) w (fun b => F' b ∨ b = t) w' ∧ ¬ F' t
theorem right_ok {l : List TopS} {x : TopS} (h : rightC l x = 0) : l.length < 6 ∧ TopOk x := by
  unfold rightC at h
  split at h; cases h
  rename_i h1
  split at h; cases h
  rename_i h2
  split at h; cases h
  split at h; cases h
  exact ⟨by omega, by simpa using h1, by omega, by omega⟩
theorem putL_le : ∀ l : List TopS, (∀ x ∈ l, TopOk x) → (l.flatMap topL).length ≤ 19 * l.length
  | [], _ => Nat.zero_le _
  | x :: l, h => by
    have h1 := putL_le l (fun y hy => h y (List.mem_cons_of_mem _ hy))
    have h2 := (h x List.mem_cons_self).size
    have h3 : (topL x).length = 3 + x.name.size := by unfold topL; rw [List.length_append, textL_length, low_length]; omega
    rw [List.flatMap_cons, List.length_append, List.length_cons, h3]
    omega
theorem putB_le {l : List TopS} (h : ∀ x ∈ l, TopOk x) : (⟨(putL l).toArray⟩ : ByteArray).size ≤ 1 + 19 * l.length := by
  have := putL_le l h
  rw [← size_toList]
  show (putL l).length ≤ _
  unfold putL
  rw [List.length_append, low_length]
  omega
section
variable {p t n : Nat} {D : DiskS} {F : Nat → Prop} {l : List TopS}
set_option maxRecDepth 100000 in
set_option maxHeartbeats 8000000 in
theorem Add_any (nm : ByteArray) (q : Int) (w : World) (h : DiskOk w p D F n) (hT : Tbl w t p l) (hF : ¬ F t) (hn : n ≤ 999980) (hf : ∀ f ∈ D.files, f.name.size ≤ maxLen) (hl : D.files.length ≤ 1000000) :
    Calls Tryz.prog 14 #[ptrTo t, .string nm, .int .i64 q] w (AddDone D p F n t l ⟨nm, q⟩ w) := by
  obtain ⟨v, hTv, hrow⟩ := hT.at_
  have hfew := hT.few
  obtain ⟨va, vc, rfl, _⟩ := hrow.tops
  have hc1 := (Calm.refl w).alloc (.cells #[.string nm, .int .i64 q] 40)
  have hn1 := heap_new w (.cells #[.string nm, .int .i64 q] 40)
  have H := box h
  have HT := box hT
  have HTv := box hTv
  have Hrow := box hrow
  have HC1 := box hc1
  have Hn1 := box hn1
  have hright := box (fun W (hc : Calm w W) => right_any (.slice va l.length vc) l ⟨nm, q⟩ W (hrow.tops.calm hc) (by omega))
  have hcells := box (fun W (hc : Calm (w.alloc (.cells #[.string nm, .int .i64 q] 40)) W) => (show W.cell? ⟨t, 0, none⟩ = some (ptrTo p) ∧ W.cell? ⟨t, 1, none⟩ = some (.slice va l.length vc) ∧ W.cell? ⟨w.heap.size, 0, none⟩ = some (.string nm) ∧ W.cell? ⟨w.heap.size, 1, none⟩ = some (.int .i64 q) from
    ⟨cell_of (heap_calm (hc1.trans hc) hTv) 0, cell_of (heap_calm (hc1.trans hc) hTv) 1, cell_of (heap_calm hc hn1) 0, cell_of (heap_calm hc hn1) 1⟩))
  obtain ⟨c, hc⟩ : ∃ c, rightC l ⟨nm, q⟩ = c := ⟨_, rfl⟩
  rw [hc] at hright
  have Hc := box hc
  have tlt := heap_lt hTv
  have c0 := cell_of (heap_calm hc1 hTv) 0
  have c1 := cell_of (heap_calm hc1 hTv) 1
  have k0 := cell_of hn1 0
  have k1 := cell_of hn1 1
  obtain ⟨w1, hw1⟩ : ∃ w1, w.alloc (.cells #[.string nm, .int .i64 q] 40) = w1 := ⟨_, rfl⟩
  rw [hw1] at hcells HC1 Hn1 c0 c1 k0 k1
  clear h hT hTv hrow hc1 hn1 hc
  go_enter Tryz.func14, Tryz.ntmps14
  go_upto_region 4 with fail
  clear hw1
  go_region_held3 (fun w' => w'.cell? ⟨t, 0, none⟩ = some (ptrTo p) ∧ w'.cell? ⟨t, 1, none⟩ = some (.slice va l.length vc) ∧ w'.cell? ⟨w.heap.size, 0, none⟩ = some (.string nm) ∧ w'.cell? ⟨w.heap.size, 1, none⟩ = some (.int .i64 q)) (first | go_keep | exact hcells.out _ (by (repeat' (first | (with_reducible exact Calm.refl _) | (with_reducible assumption) | (with_reducible refine Calm.drew ?_) | (with_reducible refine Calm.alloc ?_ _) | (with_reducible refine Calm.trans ?_ (by assumption)))))) ((go_at_call 38; refine (hright.out _ (HC1.out.trans (by (repeat' (first | (with_reducible exact Calm.refl _) | (with_reducible assumption) | (with_reducible refine Calm.drew ?_) | (with_reducible refine Calm.alloc ?_ _) | (with_reducible refine Calm.trans ?_ (by assumption))))))).mono ?_; rintro e w2 ⟨rfl, hc2⟩))
  have HC2 := box (show Calm w1 w2 by (repeat' (first | (with_reducible exact Calm.refl _) | (with_reducible assumption) | (with_reducible refine Calm.drew ?_) | (with_reducible refine Calm.alloc ?_ _) | (with_reducible refine Calm.trans ?_ (by assumption)))))
  clear hc2 hright c0 c1 k0 k1
  by_cases hc0 : c = 0
  · subst hc0
    obtain ⟨hl6, hxok⟩ := right_ok Hc.out
    have Hxok := box hxok
    have hclone := box (fun W (hc : Calm w1 W) => Clone_any (.slice va l.length vc) l W ((topRow.tops Hrow.out).calm (HC1.out.trans hc)) (by omega))
    have hl9 : l.length ≤ 1000000 := by omega
    have HS2 := box (Nat.le_trans HC1.out.size HC2.out.size)
    clear hxok
    go_upto_region 7 with fail
    go_cut [9] (fun s9 wx => ∃ a cap, s9 = .slice a (l.length + 1) cap ∧ topRow w.heap.size wx s9 (l ++ [⟨nm, q⟩]) ∧ Calm w1 wx)
    case first =>
      go_region_held3 (fun w' => w'.cell? ⟨t, 0, none⟩ = some (ptrTo p) ∧ w'.cell? ⟨t, 1, none⟩ = some (.slice va l.length vc) ∧ w'.cell? ⟨w.heap.size, 0, none⟩ = some (.string nm) ∧ w'.cell? ⟨w.heap.size, 1, none⟩ = some (.int .i64 q)) (first | go_keep | exact hcells.out _ (HC2.out.trans (by (repeat' (first | (with_reducible exact Calm.refl _) | (with_reducible assumption) | (with_reducible refine Calm.drew ?_) | (with_reducible refine Calm.alloc ?_ _) | (with_reducible refine Calm.trans ?_ (by assumption))))))) (first
        | (go_at_call 39; refine (hclone.out _ (HC2.out.trans (by (repeat' (first | (with_reducible exact Calm.refl _) | (with_reducible assumption) | (with_reducible refine Calm.drew ?_) | (with_reducible refine Calm.alloc ?_ _) | (with_reducible refine Calm.trans ?_ (by assumption))))))).mono ?_; rintro e wc ⟨vc2, rfl, hrc, hcc⟩)
        | (obtain ⟨v2, wd, happ, hrow2, hk2⟩ := append_topG w2.heap.size (wc.alloc (.cells #[.string nm, .int .i64 q] 40)) vc2 l ⟨nm, q⟩ wc.heap.size (own_calm hrc ((Calm.refl wc).alloc _)) (heap_new wc _) (Nat.le_trans hcc.size ((Calm.refl wc).alloc (.cells #[.string nm, .int .i64 q] 40)).size) hl9 35; have hcd : Calm w2 wd := Below.trans (show Calm w2 (wc.alloc (.cells #[.string nm, .int .i64 q] 40)) by (repeat' (first | (with_reducible exact Calm.refl _) | (with_reducible assumption) | (with_reducible refine Calm.drew ?_) | (with_reducible refine Calm.alloc ?_ _) | (with_reducible refine Calm.trans ?_ (by assumption))))) (hk2.below (Nat.le_trans hcc.size ((Calm.refl wc).alloc (.cells #[.string nm, .int .i64 q] 40)).size) (fun g hg => (hrc.lt g hg).1)); refine step_append_run rfl (.tmp 29) (.tmp 31) 35 rfl _ _ (by simp [Act.eval, Act.put]) (by simp [Act.eval, Act.put]) v2 wd happ ?_)
        | (obtain ⟨v2, wd, happ, hrow2, hk2⟩ := append_topG w2.heap.size wc vc2 l ⟨nm, q⟩ w2.heap.size (row_base (row_zero hrc) (fun g hg => Nat.le_trans ((Calm.refl w2).alloc (.cells #[.string nm, .int .i64 q] 40)).size (hrc.lt g hg).1)) (heap_calm hcc (heap_new _ _)) (Nat.le_trans ((Calm.refl w2).alloc (.cells #[.string nm, .int .i64 q] 40)).size hcc.size) hl9 35; have hcd : Calm w2 wd := Below.trans (show Calm w2 wc by (repeat' (first | (with_reducible exact Calm.refl _) | (with_reducible assumption) | (with_reducible refine Calm.drew ?_) | (with_reducible refine Calm.alloc ?_ _) | (with_reducible refine Calm.trans ?_ (by assumption))))) (hk2.below (Nat.le_trans ((Calm.refl w2).alloc (.cells #[.string nm, .int .i64 q] 40)).size hcc.size) (fun g hg => Nat.le_trans ((Calm.refl w2).alloc (.cells #[.string nm, .int .i64 q] 40)).size (hrc.lt g hg).1)); refine step_append_run rfl (.tmp 29) (.tmp 31) 35 rfl _ _ (by simp [Act.eval, Act.put]) (by simp [Act.eval, Act.put]) v2 wd happ ?_))
      all_goals
        obtain ⟨a9, cap9, hv9, _⟩ := topRow.tops hrow2
        rw [List.length_append, List.length_singleton] at hv9
        have Hr9 := box hrow2
        have Hcd := box hcd
        subst hv9
        clear hrow2 hcd happ hk2 hrc hcc
        go_wp2_with fail
        go_meet
        exact ⟨_, _, rfl, row_base (row_zero Hr9.out) (fun g hg => Nat.le_trans HS2.out (Hr9.out.lt g hg).1), HC2.out.trans Hcd.out⟩
    case rest =>
      obtain ⟨a9, cap9, rfl, hr9, hc9⟩ := hcut
      have hok9 : ∀ x ∈ l ++ [⟨nm, q⟩], TopOk x := fun x hx => by
        rcases List.mem_append.1 hx with hx | hx
        · exact HT.out.ok x hx
        · rw [List.mem_singleton] at hx; subst hx; exact Hxok.out
      have hlen9 : (l ++ [(⟨nm, q⟩ : TopS)]).length = l.length + 1 := by rw [List.length_append, List.length_singleton]
      have hus := putB_le hok9
      have hput := box (fun W (hc : Calm wc W) => put_any (.slice a9 (l.length + 1) cap9) (l ++ [⟨nm, q⟩]) W ((topRow.tops hr9).calm hc) (by rw [hlen9]; omega) hok9)
      rw [hlen9] at hus
      obtain ⟨u, hu⟩ : ∃ u : ByteArray, ⟨(putL (l ++ [⟨nm, q⟩])).toArray⟩ = u := ⟨_, rfl⟩
      have hadd : ∀ b, addD D l ⟨nm, q⟩ b = if (saveD D topicsN u b).1 ≠ 0 then ((saveD D topicsN u b).1, (saveD D topicsN u b).2, l) else (0, (saveD D topicsN u b).2, l ++ [⟨nm, q⟩]) := fun b => by
        unfold addD
        rw [Hc.out, if_neg (fun h => h rfl), hu]
      rw [hu] at hput hus
      have Hadd := box hadd
      have hcw := box (HC1.out.trans hc9)
      have hsave := box (fun W (hc : Calm wc W) => Save_any topicsN u W (H.out.calm (hcw.out.trans hc)) hn (by omega) (by decide) hf hl)
      have hT9 := box (fun W (hc : Calm wc W) => (show TblAt W t p (.slice va l.length vc) from heap_calm (hcw.out.trans hc) HTv.out))
      have Hr9 := box hr9
      have hg9 : _ ∧ _ ∧ _ ∧ _ := hcells.out wc hc9
      have c0 := hg9.1
      have HC9 := box hc9
      clear hr9 hc9 hu hadd hg9 hok9 hcells hclone
      go_upto_region 8 with fail
      go_region_held3 (fun w' => w'.cell? ⟨t, 0, none⟩ = some (ptrTo p)) (first | go_keep | exact cell_of (hs8.same (hT9.out _ (by (repeat' (first | (with_reducible exact Calm.refl _) | (with_reducible assumption) | (with_reducible refine Calm.drew ?_) | (with_reducible refine Calm.alloc ?_ _) | (with_reducible refine Calm.trans ?_ (by assumption)))))) hF) 0 | exact cell_of (hT9.out _ (by (repeat' (first | (with_reducible exact Calm.refl _) | (with_reducible assumption) | (with_reducible refine Calm.drew ?_) | (with_reducible refine Calm.alloc ?_ _) | (with_reducible refine Calm.trans ?_ (by assumption)))))) 0) (first
        | (go_at_call 40; refine (hput.out _ (by (repeat' (first | (with_reducible exact Calm.refl _) | (with_reducible assumption) | (with_reducible refine Calm.drew ?_) | (with_reducible refine Calm.alloc ?_ _) | (with_reducible refine Calm.trans ?_ (by assumption)))))).mono ?_; rintro e w7 ⟨rfl, hc7⟩)
        | (go_at_call 9; refine (hsave.out _ (by (repeat' (first | (with_reducible exact Calm.refl _) | (with_reducible assumption) | (with_reducible refine Calm.drew ?_) | (with_reducible refine Calm.alloc ?_ _) | (with_reducible refine Calm.trans ?_ (by assumption)))))).mono ?_; rintro e w8 ⟨b8, hb8, rfl, F8, h8, hs8⟩))
      have hcw7 : Calm wc w7 := by (repeat' (first | (with_reducible exact Calm.refl _) | (with_reducible assumption) | (with_reducible refine Calm.drew ?_) | (with_reducible refine Calm.alloc ?_ _) | (with_reducible refine Calm.trans ?_ (by assumption))))
      have S8 := box (Step.calm_left (hcw.out.trans hcw7) hs8)
      have T8 := box (hs8.same (hT9.out _ hcw7) hF)
      have R8 := box (row_disk (H.out.calm (hcw.out.trans hcw7)) (own_calm Hr9.out hcw7) hs8)
      have Hb8 := box (Nat.le_trans (Calm.trans hcw.out hcw7).size hb8)
      have H8 := box h8
      have hF8 : ¬ F8 t := fun hf => (hs8.foot t hf).elim hF (fun hx => by have := (Calm.trans hcw.out hcw7).size; omega)
      clear h8 hs8 hb8 hcw7 hc7 hput hsave
      obtain ⟨⟨c8, D8⟩, hr8⟩ : ∃ r, saveD D topicsN u b8 = r := ⟨_, rfl⟩
      rw [hr8] at H8 ⊢
      have hadd8 := Hadd.out b8
      rw [hr8] at hadd8
      have Hadd8 := box hadd8
      clear hadd8 hr8 Hadd
      simp only at H8 ⊢
      by_cases hc8 : c8 = 0
      · subst hc8
        have d1 := cell_of T8.out 1
        have g1 := free_of T8.out 1
        have tlt8 := heap_lt T8.out
        go_wp2_with fail
        go_ret
        have hr : addD D l ⟨nm, q⟩ b8 = (0, D8, l ++ [⟨nm, q⟩]) := by rw [Hadd8.out]; simp
        have hks : Keeps (fun b => b = t) w8 (w8.setCell ⟨t, 1, none⟩ (.slice a9 (l.length + 1) cap9)) := Keeps.setCell (F := fun b => b = t) (Keeps.refl _ _) (p := ⟨t, 1, none⟩) (.inl rfl) _
        refine ⟨b8, F8, Hb8.out, ret_int (by rw [hr]), ?_, ?_, ?_, hF8⟩
        · rw [hr]; exact H8.out.keep hks (fun b hb e => hF8 (e ▸ hb))
        · rw [hr]
          refine ⟨⟨_, heap_set T8.out 1 _, ?_⟩, by rw [List.length_append, List.length_singleton]; omega, fun x hx => ?_⟩
          · exact row_same (row_zero R8.out) (fun g hg => heap_set_other (fun e => by
              subst e
              obtain ⟨cur, hcur⟩ := own_row R8.out hg
              rw [T8.out] at hcur
              simp only [Option.some.injEq, Obj.cells.injEq] at hcur
              exact absurd hcur.2.1 (by decide)) 1 _)
          · rcases List.mem_append.1 hx with hx | hx
            · exact HT.out.ok x hx
            · rw [List.mem_singleton] at hx; subst hx; exact Hxok.out
        · exact ⟨Keeps.setCell (p := ⟨t, 1, none⟩) (Keeps.mono S8.out.keeps (fun b _ hb => .inl hb)) (.inl (.inr rfl)) _, fun b hb => by
            rcases hb with hb | hb
            · rcases S8.out.foot b hb with h | h
              · exact .inl (.inl h)
              · exact .inr h
            · exact .inl (.inr hb)⟩
      · have hne : (c8 == 0) = false := beq_eq_false_iff_ne.2 hc8
        have hne2 : (c8 != 0) = true := by simp [bne, hne]
        go_wp2_with fail
        go_ret
        have hr : addD D l ⟨nm, q⟩ b8 = (c8, D8, l) := by rw [Hadd8.out]; simp [hc8]
        refine ⟨b8, F8, Hb8.out, ret_int (by rw [hr]), ?_, ?_, ?_, hF8⟩
        · rw [hr]; exact H8.out
        · rw [hr]; exact HT.out.step H.out hF S8.out
        · exact ⟨S8.out.keeps.mono (fun b _ hb => .inl hb), fun b hb => by
            rcases hb with hb | hb
            · rcases S8.out.foot b hb with h | h
              · exact .inl (.inl h)
              · exact .inr h
            · exact .inl (.inr hb)⟩
  · have hne : (c == 0) = false := beq_eq_false_iff_ne.2 hc0
    have hne2 : (c != 0) = true := by simp [bne, hne]
    go_wp2_with fail
    go_ret
    have hr : addD D l ⟨nm, q⟩ w.heap.size = (c, D, l) := by unfold addD; rw [Hc.out, if_pos hc0]
    refine ⟨w.heap.size, F, Nat.le_refl _, ret_int (by rw [hr]), ?_, ?_, Step.of_calm (HC1.out.trans HC2.out), hF⟩
    · rw [hr]; exact (H.out.calm (HC1.out.trans HC2.out)).mono (Nat.le_succ _)
    · rw [hr]; exact HT.out.calm (HC1.out.trans HC2.out)
end
end Go.Proofs.YtccbfekajbnehaaGreat.tp

/- Layer 13: the laws' example. -/
namespace Go.Proofs.YtccbfekajbnehaaGreat.tp
open Go.ChangeShapes Go.WideShapes Go.ChangeAt Go.RowKit
open Go.Proofs.YtccbfekajbnehaaGreat.dk Go.Proofs.YtccbfekajbnehaaGreat.nm Go.Proofs.YtccbfekajbnehaaGreat.oc Go.Proofs.YtccbfekajbnehaaGreat.rc

abbrev aN : ByteArray := ⟨#[97]⟩
theorem new_has (c : Int) (n : ByteArray) : (new c).has n = false := rfl
theorem new_load (c : Int) : loadD (new c) topicsN = (⟨#[]⟩, false, 0) := rfl
theorem new_open (c : Int) : openT (new c) = (0, some []) := rfl
theorem a_right : rightC [] ⟨aN, 2⟩ = 0 := by decide
theorem fresh_ne (n : ByteArray) : n ++ freshN ≠ n := fun e => by
  have := congrArg ByteArray.size e
  rw [ByteArray.size_append] at this
  have : freshN.size = 4 := rfl
  omega
theorem a_add (b : Nat) : ∃ D, addD (new 1000) [] ⟨aN, 2⟩ b = (0, D, [⟨aN, 2⟩]) := by
  have hok : ∀ x ∈ [(⟨aN, 2⟩ : TopS)], TopOk x := fun x hx => by
    rw [List.mem_singleton] at hx; subst hx; exact (right_ok a_right).2
  have hs := putB_le hok
  obtain ⟨W', h1, _⟩ := save_ok (new_alive 1000) (nm := topicsN) (new_has 1000 _) (fresh_ne _) ⟨(putL [⟨aN, 2⟩]).toArray⟩ (by
    have hc : (new 1000).cap = 1000 := by decide
    have hz : (new 1000).size = 0 := rfl
    rw [hc, hz]
    simp only [List.length_singleton] at hs
    omega) b
  obtain ⟨D1, hD1⟩ : ∃ D1, saveD (new 1000) topicsN ⟨(putL [⟨aN, 2⟩]).toArray⟩ b = (0, D1) := ⟨_, h1⟩
  refine ⟨D1, ?_⟩
  unfold addD
  rw [a_right, if_neg (fun h => h rfl)]
  simp only [List.nil_append]
  rw [hD1]
  rfl
theorem a_check2 : checkT [⟨aN, 2⟩] aN 2 = 13 := by decide
theorem a_check1 : checkT [⟨aN, 2⟩] aN 1 = 0 := by decide
set_option maxRecDepth 100000 in
set_option maxHeartbeats 4000000 in
theorem awake_any (W : World) : Calls Tryz.prog 7 #[] W fun e W' => e = .returned (.bool true) ∧ Calm W W' := by
  go_enter Tryz.func7, Tryz.ntmps7
  go_wp2_with fail
  refine (New_ok _ 1000).mono ?_
  rintro e w1 ⟨p, F, rfl, h1, hc1, hF1⟩
  have O1 := box ((Owns.refl W).new hc1 hF1)
  have H1 := box h1
  clear h1 hc1 hF1
  go_wp2_with fail
  refine (Open_tb w1 H1.out (by decide) (by decide)).mono ?_
  rw [new_open]
  rintro e w2 ⟨hc2, t, rfl, hT, ht⟩
  have HT := box hT
  have O2 := box (O1.out.calm' hc2)
  have H2 := box (H1.out.calm hc2)
  have HFt := box (show ¬ F t from fun hf => by have := H1.out.foot_lt _ hf; omega)
  have Ht := box (show W.heap.size ≤ t from Nat.le_trans O1.out.calm.size ht)
  clear hc2 hT ht
  go_wp2_with fail
  refine (Add_any aN 2 w2 H2.out HT.out HFt.out (by decide) (fun f hf => by cases hf) (Nat.zero_le _)).mono ?_
  rintro e w3 ⟨b, F3, hb, rfl, hd, hT3, hs, hF3⟩
  obtain ⟨D3, hD3⟩ := a_add b
  rw [hD3] at hT3 ⊢
  have HT3 := box hT3
  have HC3 := box (show Calm W w3 from Below.trans O2.out.calm (hs.keeps.below O2.out.calm.size (fun x hx => hx.elim (O2.out.foot x) (fun e => e ▸ Ht.out))))
  clear hd hT3 hs hF3 hb hD3
  go_wp2_with fail
  refine (Check_any aN 2 w3 HT3.out).mono ?_
  rw [a_check2]
  rintro e w4 ⟨rfl, hc4⟩
  have HC4 := box (HC3.out.trans hc4)
  have HT4 := box (HT3.out.calm hc4)
  clear hc4
  go_wp2_with fail
  refine (Check_any aN 1 w4 HT4.out).mono ?_
  rw [a_check1]
  rintro e w5 ⟨rfl, hc5⟩
  have HC5 := box (HC4.out.trans hc5)
  clear hc5
  go_wp2_with fail
  go_ret
  exact ⟨ret_bool (by simp), HC5.out⟩
end Go.Proofs.YtccbfekajbnehaaGreat.tp

/- Layer 13, plain: texts saved under two names. -/
namespace Go.Proofs.YtccbfekajbnehaaGreat.tp
open Go.ChangeShapes Go.WideShapes Go.ChangeAt Go.RowKit
open Go.Proofs.YtccbfekajbnehaaGreat.dk Go.Proofs.YtccbfekajbnehaaGreat.nm Go.Proofs.YtccbfekajbnehaaGreat.oc Go.Proofs.YtccbfekajbnehaaGreat.rc

abbrev oneN : ByteArray := ⟨#[111, 110, 101]⟩
abbrev twoN : ByteArray := ⟨#[116, 119, 111]⟩
abbrev Pr := ByteArray × ByteArray
theorem open_seal (s : ByteArray) : openSeal (sealB s) = some s := by
  have h := seal_open s.data.toList
  have e : (⟨s.data.toList.toArray⟩ : ByteArray) = s := ba_ext rfl
  rw [e] at h
  exact h
structure Saves (D : DiskS) (L : List Pr) : Prop where
  alive : Alive D
  files : D.files.map (fun f => (f.name, f.now)) = L.map (fun x => (x.1, sealB x.2))
  nodup : (L.map (·.1)).Nodup
  names : ∀ x ∈ L, (x.1 = oneN ∨ x.1 = twoN) ∧ x.2.size ≤ 100
  cap : D.cap = 65536
theorem two_most : ∀ L : List ByteArray, L.Nodup → (∀ x ∈ L, x = oneN ∨ x = twoN) → L.length ≤ 2
  | [], _, _ => by simp
  | [_], _, _ => by simp
  | [_, _], _, _ => by simp
  | x :: y :: z :: l, hn, h => by
    have hx := h x (by simp)
    have hy := h y (by simp)
    have hz := h z (by simp)
    simp only [List.nodup_cons, List.mem_cons, not_or] at hn
    obtain ⟨⟨h1, h2, _⟩, ⟨h3, _⟩, _⟩ := hn
    rcases hx with rfl | rfl <;> rcases hy with rfl | rfl <;> rcases hz with rfl | rfl <;> simp_all
section
variable {D : DiskS} {L : List Pr}
theorem Saves.few (h : Saves D L) : L.length ≤ 2 := by
  have := two_most _ h.nodup (fun x hx => by
    obtain ⟨y, hy, rfl⟩ := List.mem_map.1 hx
    exact (h.names y hy).1)
  rwa [List.length_map] at this
theorem Saves.len (h : Saves D L) : D.files.length = L.length := by
  have := congrArg List.length h.files
  rwa [List.length_map, List.length_map] at this
theorem Saves.mem (h : Saves D L) {f : FileS} (hf : f ∈ D.files) : ∃ x ∈ L, f.name = x.1 ∧ f.now = sealB x.2 := by
  have h1 : (f.name, f.now) ∈ L.map (fun x => (x.1, sealB x.2)) := by rw [← h.files]; exact List.mem_map.2 ⟨f, hf, rfl⟩
  obtain ⟨x, hx, he⟩ := List.mem_map.1 h1
  simp only [Prod.mk.injEq] at he
  exact ⟨x, hx, he.1.symm, he.2.symm⟩
theorem Saves.name (h : Saves D L) {f : FileS} (hf : f ∈ D.files) : f.name.size = 3 := by
  obtain ⟨x, hx, hn, _⟩ := h.mem hf
  rw [hn]
  rcases (h.names x hx).1 with e | e <;> rw [e] <;> rfl
theorem total_le (L : List FileS) (m : Nat) (h : ∀ f ∈ L, f.now.size ≤ m) : total L ≤ m * L.length := by
  induction L with
  | nil => exact Nat.zero_le _
  | cons f L ih =>
    have h1 := ih (fun g hg => h g (List.mem_cons_of_mem _ hg))
    have h2 := h f List.mem_cons_self
    have : total (f :: L) = f.now.size + total L := rfl
    rw [this, List.length_cons, Nat.mul_succ]
    omega
theorem Saves.size (h : Saves D L) : D.size ≤ 208 := by
  have h1 := total_le D.files 104 (fun f hf => by
    obtain ⟨x, hx, _, hn⟩ := h.mem hf
    rw [hn, sealB_size]
    have := (h.names x hx).2
    omega)
  have h2 := h.len
  have h3 := h.few
  have : D.size = total D.files := rfl
  have : 104 * D.files.length ≤ 104 * 2 := Nat.mul_le_mul_left _ (by omega)
  omega
theorem Saves.next (h : Saves D L) (n s : ByteArray) (hn : n = oneN ∨ n = twoN) (hs : s.size ≤ 100) (b : Nat) :
    ∃ D', saveD D n s b = (0, D') ∧ Saves D' (L.filter (fun x => !decide (x.1 = n)) ++ [(n, s)]) := by
  have hx : D.has (n ++ freshN) = false := by
    cases hh : D.has (n ++ freshN) with
    | false => rfl
    | true =>
      obtain ⟨f, hf, he⟩ := (has_iff D _).1 hh
      have h1 := h.name hf
      rw [he, ByteArray.size_append] at h1
      have h2 : freshN.size = 4 := rfl
      omega
  obtain ⟨W', h1, _⟩ := save_ok h.alive hx (fresh_ne n) s (by rw [h.cap]; have := h.size; omega) b
  refine ⟨_, h1, ⟨h.alive.left, h.alive.down⟩, ?_, ?_, fun x hx => ?_, h.cap⟩
  · simp only [List.map_append, List.map_cons, List.map_nil]
    congr 1
    have e1 : (D.files.filter fun x => !decide (x.name = n)).map (fun f => (f.name, f.now)) = (D.files.map (fun f => (f.name, f.now))).filter (fun y => !decide (y.1 = n)) := by rw [List.filter_map]; rfl
    have e2 : (L.filter fun x => !decide (x.1 = n)).map (fun x => (x.1, sealB x.2)) = (L.map (fun x => (x.1, sealB x.2))).filter (fun y => !decide (y.1 = n)) := by rw [List.filter_map]; rfl
    rw [e1, e2, h.files]
  · rw [List.map_append, List.nodup_append]
    refine ⟨(h.nodup.sublist ((List.filter_sublist).map _)), by simp, fun a ha b hb e => ?_⟩
    simp only [List.map_cons, List.map_nil, List.mem_singleton] at hb
    obtain ⟨y, hy, rfl⟩ := List.mem_map.1 ha
    have := (List.mem_filter.1 hy).2
    simp only [Bool.not_eq_true', decide_eq_false_iff_not] at this
    exact this (e.trans hb)
  · rcases List.mem_append.1 hx with hx | hx
    · exact h.names x (List.mem_filter.1 hx).1
    · rw [List.mem_singleton] at hx; subst hx; exact ⟨hn, hs⟩
/-- What Load tells. -/
theorem Saves.load (h : Saves D L) {n s : ByteArray} (hm : (n, s) ∈ L) : loadD D n = (s, true, 0) := by
  have h1 : (n, sealB s) ∈ D.files.map (fun f => (f.name, f.now)) := by rw [h.files]; exact List.mem_map.2 ⟨_, hm, rfl⟩
  obtain ⟨f, hf, he⟩ := List.mem_map.1 h1
  simp only [Prod.mk.injEq] at he
  have hall : D.all n = (sealB s, 0) := by
    unfold DiskS.all
    rw [if_neg (by rw [h.alive.down]; exact Bool.false_ne_true)]
    cases hfd : D.find n with
    | none => exact absurd he.1 (find_none hfd f hf)
    | some g =>
      obtain ⟨hg, hgn⟩ := find_some hfd
      obtain ⟨x, hx, hxn, hxs⟩ := h.mem hg
      have hxe : x = (n, s) := by
        have hnd := h.nodup
        have h2 : x.1 = (n, s).1 := by rw [← hxn, hgn]
        exact nodup_inj hnd hx hm h2
      simp only
      rw [hxs, hxe]
  unfold loadD
  rw [hall]
  simp only [open_seal]
  rfl
theorem Saves.none (h : Saves D L) {n : ByteArray} (hm : ∀ x ∈ L, x.1 ≠ n) : loadD D n = (⟨#[]⟩, false, 0) := by
  have hall : D.all n = (⟨#[]⟩, 9) := by
    unfold DiskS.all
    rw [if_neg (by rw [h.alive.down]; exact Bool.false_ne_true)]
    cases hfd : D.find n with
    | none => rfl
    | some g =>
      obtain ⟨hg, hgn⟩ := find_some hfd
      obtain ⟨x, hx, hxn, _⟩ := h.mem hg
      exact absurd (hxn.symm.trans hgn) (hm x hx)
  unfold loadD
  rw [hall]
  rfl
theorem Saves.all (h : Saves D L) (n : ByteArray) : (D.all n).1.size ≤ 1000000 := by
  unfold DiskS.all
  rw [if_neg (by rw [h.alive.down]; exact Bool.false_ne_true)]
  cases hfd : D.find n with
  | none => exact Nat.zero_le _
  | some g =>
    obtain ⟨hg, _⟩ := find_some hfd
    obtain ⟨x, hx, _, hxs⟩ := h.mem hg
    simp only
    rw [hxs, sealB_size]
    have := (h.names x hx).2
    omega
end
end Go.Proofs.YtccbfekajbnehaaGreat.tp

/- Layers 1 and 2: numbers', texts', lists' bytes, sums, as the document has them. -/
namespace Go.Proofs.YtccbfekajbnehaaGreat.oc
open Go.ChangeShapes Go.WideShapes Go.ChangeAt Go.RowKit
open Go.Proofs.YtccbfekajbnehaaGreat.cr

/-- 'string([]byte{b})' -/
theorem byte_string (w : World) (y : Nat) : (convert 106 9 (.slice (some ⟨w.heap.size, 0, none⟩) 1 1)).run Tryz.prog (w.alloc (.cells #[.int .u8 ((y : Int) % 256)] 5)) = .ok (.string ⟨#[UInt8.ofNat y]⟩) (w.alloc (.cells #[.int .u8 ((y : Int) % 256)] 5)) := by
  have hb : BufIs (w.alloc (.cells #[.int .u8 ((y : Int) % 256)] 5)) w.heap.size 1 [UInt8.ofNat y] := by
    have h0 := heap_new w (.cells #[.int .u8 ((y : Int) % 256)] 5)
    refine ⟨fun j hj => ?_, fun j hj => ?_, fun j hj => free_of h0 j, by simp, by simp⟩
    · have : j = 0 := by simpa using hj
      subst this
      rw [cell_of h0]
      simp
    · have : j = 0 := by omega
      subst this
      rw [cell_of h0]
      rfl
  exact conv_string (P := Tryz.prog) _ 106 9 5 Tryz.underlying106 Tryz.underlying5 Tryz.underlying9 hb 1
set_option maxRecDepth 100000 in
/-- A number's bytes, as the document has them. -/
theorem rNum_any (n x : Nat) (w : World) (hn : n ≤ 8) (hx : x ≤ 9223372036854775807) :
    Calls Tryz.prog 44 #[.int .i64 n, .int .i64 x] w fun e w' => e = .returned (.string ⟨(low n x).toArray⟩) ∧ Calm w w' := by
  go_enter Tryz.func44, Tryz.ntmps44
  go_wp2_with fail
  go_loopw [1, 5, 6] (fun y s i wr => ∃ k : Nat, k ≤ n ∧ i = .int .i64 k ∧ y = .int .i64 ((x / 256 ^ k : Nat) : Int) ∧ s = .string ⟨(low k x).toArray⟩ ∧ Calm w wr) (fun _ _ i _ => n - (intOf i).toNat)
  case atStart => exact ⟨0, Nat.zero_le _, rfl, by simp, rfl, Calm.refl _⟩
  case round =>
    obtain ⟨k, hk, rfl, rfl, rfl, hcal⟩ := hrel
    have HC := box hcal
    clear hcal
    by_cases hlt : k < n
    · have hyb : x / 256 ^ k ≤ 9223372036854775807 := Nat.le_trans (Nat.div_le_self _ _) hx
      have hlow := box (show (⟨#[UInt8.ofNat (x / 256 ^ k)]⟩ : ByteArray) ++ ⟨(low k x).toArray⟩ = ⟨(low (k + 1) x).toArray⟩ from ba_ext (by rw [append_toList]; rfl))
      have hconv := byte_string wr (x / 256 ^ k)
      have hdiv := box (show x / 256 ^ k / 256 = x / 256 ^ (k + 1) by rw [Nat.div_div_eq_div_mul, Nat.pow_succ])
      obtain ⟨y, hy⟩ : ∃ y, x / 256 ^ k = y := ⟨_, rfl⟩
      rw [hy] at hyb hlow hdiv hconv ⊢
      clear hy
      have z1 : (⟨#[UInt8.ofNat y]⟩ : ByteArray).size = 1 := rfl
      have z2 : (⟨(low k x).toArray⟩ : ByteArray).size = k := low_size k x
      obtain ⟨u, hu⟩ : ∃ u : ByteArray, ⟨#[UInt8.ofNat y]⟩ = u := ⟨_, rfl⟩
      obtain ⟨s, hs⟩ : ∃ s : ByteArray, ⟨(low k x).toArray⟩ = s := ⟨_, rfl⟩
      rw [hu] at hlow hconv z1
      rw [hs] at hlow z2 ⊢
      clear hu hs
      go_wp2_with fail
      go_roundw
      case rel => exact ⟨k + 1, by omega, by go_num, val_int (by rw [← hdiv.out]; omega), congrArg Value.string hlow.out, HC.out.alloc _⟩
      case measure => simp [intOf]; omega
    · obtain rfl : k = n := by omega
      go_wp2_with fail
      go_ret
      exact ⟨rfl, HC.out⟩
end Go.Proofs.YtccbfekajbnehaaGreat.oc
namespace Go.Proofs.YtccbfekajbnehaaGreat.cr
open Go.ChangeShapes Go.WideShapes Go.ChangeAt Go.RowKit
open Go.Proofs.YtccbfekajbnehaaGreat.oc

theorem xor64 (a b : Nat) (ha : a < 4294967296) (hb : b < 4294967296) : bits .xor .i64 (a : Int) (b : Int) = ((a ^^^ b : Nat) : Int) := by
  have hx : a ^^^ b < 4294967296 := Nat.xor_lt_two_pow (n := 32) (by omega) (by omega)
  simp only [bits, BitVec.ofInt_natCast, BitVec.toNat_xor, BitVec.toNat_ofNat]
  rw [show IntKind.i64.bits = 64 from rfl, Nat.mod_eq_of_lt (by omega), Nat.mod_eq_of_lt (by omega), IntKind.wrap_i64]
  omega
theorem xor_all (x : Nat) (h : x < 4294967296) : 4294967295 ^^^ x = 4294967295 - x := by
  have h1 := Nat.and_xor_distrib_right (a := 4294967295) (b := 0) (c := x)
  apply Nat.eq_of_testBit_eq
  intro i
  rw [Nat.testBit_xor, show (4294967295 : Nat) - x = 2 ^ 32 - (x + 1) by omega, Nat.testBit_two_pow_sub_succ (by omega), show (4294967295 : Nat) = 2 ^ 32 - 1 from rfl, Nat.testBit_two_pow_sub_one]
  by_cases hi : i < 32
  · simp [hi]
  · have : x.testBit i = false := Nat.testBit_lt_two_pow (Nat.lt_of_lt_of_le (show x < 2 ^ 32 by omega) (Nat.pow_le_pow_right (by decide) (by omega)))
    simp [hi, this]
set_option maxRecDepth 100000 in
set_option maxHeartbeats 2000000 in
/-- A text's sum, bit by bit, as the document has it. -/
theorem rSum_any (s : ByteArray) (w : World) (hs : s.size ≤ 1000000) :
    Calls Tryz.prog 45 #[.string s] w fun e w' => e = .returned (.int .i64 (crcN s.data.toList : Nat)) ∧ w = w' := by
  have Hs := box hs
  clear hs
  go_enter Tryz.func45, Tryz.ntmps45
  go_wp2_with fail
  go_loopw [3, 4] (fun r i wr => wr = w ∧ ∃ k y : Nat, k ≤ s.size ∧ i = .int .i64 k ∧ r = .int .i64 y ∧ y < 4294967296 ∧ y = (s.data.toList.take k).foldl crcB 4294967295) (fun _ i _ => s.size - (intOf i).toNat)
  case atStart => exact ⟨by first | rfl | trivial, 0, 4294967295, Nat.zero_le _, rfl, rfl, by decide, rfl⟩
  case round =>
    obtain ⟨rfl, k, y, hk, rfl, rfl, hy, hyf⟩ := hrel
    have Hyf := box hyf
    clear hyf
    by_cases hlt : k < s.size
    · have hnext := box (show (s.data.toList.take (k + 1)).foldl crcB 4294967295 = crcB ((s.data.toList.take k).foldl crcB 4294967295) s[k] by
        rw [List.take_succ_eq_append_getElem (by rw [size_toList]; exact hlt), List.foldl_append]; rfl)
      rw [← Hyf.out] at hnext
      have hx1 := xor64 y s[k].toNat hy (by have := s[k].toNat_lt; omega)
      have hx2 : y ^^^ s[k].toNat < 4294967296 := Nat.xor_lt_two_pow (n := 32) (by omega) (by have := s[k].toNat_lt; omega)
      have hcb := box (show steps 8 (y ^^^ s[k].toNat) = crcB y s[k] from rfl)
      have hcl := box (crcB_lt hy s[k])
      obtain ⟨z, hz⟩ : ∃ z, y ^^^ s[k].toNat = z := ⟨_, rfl⟩
      rw [hz] at hx1 hx2 hcb
      obtain ⟨q, hq⟩ : ∃ q, crcB y s[k] = q := ⟨_, rfl⟩
      rw [hq] at hcb hcl hnext
      have hsk : s[k].toNat < 256 := s[k].toNat_lt
      have hs6 := Hs.out
      clear hz hq
      go_wp2_with fail
      go_loopw [3, 5] (fun r j wr' => wr' = wr ∧ ∃ n x : Nat, n ≤ 8 ∧ j = .int .i64 n ∧ r = .int .i64 x ∧ x < 4294967296 ∧ steps (8 - n) x = q) (fun _ j _ => 8 - (intOf j).toNat)
      case atStart => exact ⟨by first | rfl | trivial, 0, z, by omega, rfl, rfl, hx2, hcb.out⟩
      case round =>
        obtain ⟨rfl, n, x, hn, rfl, rfl, hxl, hst⟩ := hrel
        have Hst := box hst
        clear hst
        by_cases hn8 : n < 8
        · have hst2 := box (show steps (8 - (n + 1)) (step1 x) = q by rw [← Hst.out, show 8 - n = (8 - (n + 1)) + 1 by omega]; rfl)
          have hs1 := box (step1_lt hxl)
          have hm : Int.tmod (x : Int) 2 = ((x % 2 : Nat) : Int) := by rw [Int.tmod_eq_emod_of_nonneg (by omega)]; omega
          have hd : Int.tdiv (x : Int) 2 = ((x / 2 : Nat) : Int) := by rw [Int.tdiv_eq_ediv_of_nonneg (by omega)]; omega
          by_cases hodd : x % 2 = 1
          · rw [hodd] at hm
            have hx : bits .xor .i64 ((x / 2 : Nat) : Int) 3988292384 = ((step1 x : Nat) : Int) := by
              have := xor64 (x / 2) 3988292384 (by omega) (by decide)
              unfold step1
              rw [if_pos hodd, ← show ((3988292384 : Nat) : Int) = 3988292384 from rfl, this]
              rfl
            have hh : x / 2 < 4294967296 := by omega
            obtain ⟨u, hu⟩ : ∃ u, x / 2 = u := ⟨_, rfl⟩
            rw [hu] at hd hx hh
            clear hu
            go_wp2_with fail
            go_roundw
            case rel => exact ⟨by first | rfl | trivial, n + 1, step1 x, by omega, by go_num, rfl, hs1.out, hst2.out⟩
            case measure => simp [intOf]; omega
          · have h0 : x % 2 = 0 := by omega
            rw [h0] at hm
            have hx : x / 2 = step1 x := by unfold step1; rw [if_neg hodd, Nat.xor_zero]
            rw [hx] at hd
            have hh := hs1.out
            go_wp2_with fail
            go_roundw
            case rel => exact ⟨by first | rfl | trivial, n + 1, step1 x, by omega, by go_num, rfl, hs1.out, hst2.out⟩
            case measure => simp [intOf]; omega
        · obtain rfl : n = 8 := by omega
          have hxq : x = q := Hst.out
          go_wp2_with fail
          go_roundw
          case rel => exact ⟨by first | rfl | trivial, k + 1, x, by omega, by go_num, rfl, hxl, by rw [hnext.out, hxq]⟩
          case measure => simp [intOf]; omega
    · obtain rfl : k = s.size := by omega
      have hfin : crcN s.data.toList = 4294967295 - y := by
        unfold crcN
        have := Hyf.out
        rw [List.take_of_length_le (by rw [size_toList]; exact Nat.le_refl _)] at this
        rw [← this, xor_all y hy]
      go_wp2_with fail
      go_ret
      exact ⟨ret_int (by rw [hfin]; omega), rfl⟩
end Go.Proofs.YtccbfekajbnehaaGreat.cr

/- TopicForms' walk. -/
namespace Go.Proofs.YtccbfekajbnehaaGreat.tforms
open Go.ChangeShapes Go.WideShapes Go.ChangeAt Go.RowKit
open Go.Proofs.YtccbfekajbnehaaGreat.dk Go.Proofs.YtccbfekajbnehaaGreat.tp Go.Proofs.YtccbfekajbnehaaGreat.rc Go.Proofs.YtccbfekajbnehaaGreat.oc Go.Proofs.YtccbfekajbnehaaGreat.cr


/-- Sealed bytes, as the document has them. -/
theorem rSeal_any (s : ByteArray) (w : World) (hs : s.size ≤ 1000000) :
    Calls Tryz.prog 19 #[.string s] w fun e w' => e = .returned (.string ⟨(sealL s.data.toList).toArray⟩) ∧ Calm w w' := by
  have hlt := crcN_lt s.data.toList
  have hsum := box (rSum_any s w hs)
  have hcat := box (show (⟨(low 4 (crcN s.data.toList)).toArray⟩ : ByteArray) ++ s = ⟨(sealL s.data.toList).toArray⟩ from ba_ext (by rw [append_toList]; rfl))
  obtain ⟨n, hn⟩ : ∃ n, crcN s.data.toList = n := ⟨_, rfl⟩
  rw [hn] at hlt hsum hcat
  have hnum := box (rNum_any 4 n w (by decide) (by omega))
  have z2 : (⟨(low 4 n).toArray⟩ : ByteArray).size = 4 := low_size 4 n
  obtain ⟨u, hu⟩ : ∃ u : ByteArray, ⟨(low 4 n).toArray⟩ = u := ⟨_, rfl⟩
  rw [hu] at hcat z2 hnum
  clear hu hn
  rw [← hcat.out]
  go_enter Tryz.func19, Tryz.ntmps19
  go_wp2_with fail
  refine hsum.out.mono ?_
  rintro e w2 ⟨rfl, rfl⟩
  go_wp2_with fail
  refine hnum.out.mono ?_
  rintro e w3 ⟨rfl, hc⟩
  have C := box hc
  clear hc
  go_wp2_with fail
  go_ret
  exact ⟨rfl, C.out⟩

abbrev quiteN : ByteArray := ⟨#[113, 117, 105, 116, 101, 45, 110, 101, 119]⟩
theorem AddNil (nm : ByteArray) (q : Int) (w : World) : Calls Tryz.prog 14 #[.pointer none, .string nm, .int .i64 q] w fun e w' => e = .returned (.int .i64 1) ∧ w = w' := by
  go_enter Tryz.func14, Tryz.ntmps14
  go_wp2
  go_ret
  exact ⟨rfl, rfl⟩
theorem QueuesNil (nm : ByteArray) (w : World) : Calls Tryz.prog 17 #[.pointer none, .string nm] w fun e w' => e = .returned (.int .i64 0) ∧ w = w' := by
  go_enter Tryz.func17, Tryz.ntmps17
  go_wp2
  go_ret
  exact ⟨rfl, rfl⟩
theorem CheckNil (nm : ByteArray) (q : Int) (w : World) : Calls Tryz.prog 18 #[.pointer none, .string nm, .int .i64 q] w fun e w' => e = .returned (.int .i64 1) ∧ w = w' := by
  have h := box (QueuesNil nm w)
  go_enter Tryz.func18, Tryz.ntmps18
  go_wp2_with fail
  refine h.out.mono ?_
  rintro e w1 ⟨rfl, rfl⟩
  go_wp2_with fail
  go_ret
  exact ⟨rfl, rfl⟩
theorem AllNil (w : World) : Calls Tryz.prog 16 #[.pointer none] w fun e w' => e = .returned (.slice none 0 0) ∧ w = w' := by
  go_enter Tryz.func16, Tryz.ntmps16
  go_wp2
  go_ret
  exact ⟨rfl, rfl⟩
/-- A disk that is full. -/
structure Full (D : DiskS) (raw : ByteArray) : Prop where
  alive : Alive D
  names : D.files.map (·.name) = [topicsN]
  all : D.all topicsN = (raw, 0)
  room : D.cap = D.size
theorem Full.has {D : DiskS} {raw : ByteArray} (h : Full D raw) : D.has (topicsN ++ freshN) = false := by
  cases hh : D.has (topicsN ++ freshN) with
  | false => rfl
  | true =>
    obtain ⟨f, hf, he⟩ := (has_iff D _).1 hh
    have h1 : f.name ∈ D.files.map (·.name) := List.mem_map.2 ⟨f, hf, rfl⟩
    rw [h.names, List.mem_singleton] at h1
    exact absurd (he.symm.trans h1) (fresh_ne _)
theorem Full.save {D : DiskS} {raw : ByteArray} (h : Full D raw) (s : ByteArray) (b : Nat) : (saveD D topicsN s b).1 = 7 := by
  have hc : clearD D (topicsN ++ freshN) = (0, D) := by unfold clearD; rw [if_neg (by rw [h.has]; exact Bool.false_ne_true)]
  have hno := find_none_of h.has
  have hcr : D.create (topicsN ++ freshN) b = (0, { D with files := D.files ++ [⟨topicsN ++ freshN, b, ⟨#[]⟩, ⟨#[]⟩⟩] }) := by
    unfold DiskS.create; rw [if_neg (by rw [h.alive.down]; exact Bool.false_ne_true), if_neg (by rw [h.has]; exact Bool.false_ne_true), h.alive.doing]
  have hsz : DiskS.size { D with files := D.files ++ [⟨topicsN ++ freshN, b, ⟨#[]⟩, ⟨#[]⟩⟩] } = D.size := by
    unfold DiskS.size; rw [total_append]; rfl
  have hwr : (DiskS.write { D with files := D.files ++ [⟨topicsN ++ freshN, b, ⟨#[]⟩, ⟨#[]⟩⟩] } (topicsN ++ freshN) 0 (sealB s)).1 = 7 := by
    unfold DiskS.write
    rw [if_neg (show ¬ D.down = true by rw [h.alive.down]; exact Bool.false_ne_true)]
    rw [show DiskS.find { D with files := D.files ++ [⟨topicsN ++ freshN, b, ⟨#[]⟩, ⟨#[]⟩⟩] } (topicsN ++ freshN) = some ⟨topicsN ++ freshN, b, ⟨#[]⟩, ⟨#[]⟩⟩ from find_last hno _ rfl]
    simp only
    have h0 : (⟨#[]⟩ : ByteArray).size = 0 := rfl
    have h4 := sealB_size s
    have hr := h.room
    rw [hsz, if_neg (by rw [h0]; omega), if_pos (by rw [h0]; omega)]
  unfold saveD
  rw [hc]
  simp only [ne_eq, not_true_eq_false, if_false]
  unfold laidD
  rw [hcr]
  simp only [ne_eq, not_true_eq_false, if_false]
  have hne : ¬ (DiskS.write { D with files := D.files ++ [⟨topicsN ++ freshN, b, ⟨#[]⟩, ⟨#[]⟩⟩] } (topicsN ++ freshN) 0 (sealB s)).1 = 0 := by rw [hwr]; decide
  rw [if_pos hne]
  unfold endD
  rw [hwr]
  rfl
theorem full_made (raw : ByteArray) (hs : raw.size ≤ 304) (b : Nat) : ∃ D1 D2, (new (raw.size : Int)).create topicsN b = (0, D1) ∧ D1.write topicsN 0 raw = (0, D2) ∧ Full D2 raw := by
  have hcap : (new (raw.size : Int)).cap = raw.size := by show min (max (raw.size : Int) 0) 16777216 = _; omega
  obtain ⟨c, hc⟩ : ∃ c, (new (raw.size : Int)).cap = c := ⟨_, rfl⟩
  rw [hc] at hcap
  have h1 : (new (raw.size : Int)).create topicsN b = (0, ⟨-1, false, c, [⟨topicsN, b, ⟨#[]⟩, ⟨#[]⟩⟩], []⟩) := by rw [← hc]; rfl
  have a1 : Alive ⟨-1, false, c, [⟨topicsN, b, ⟨#[]⟩, ⟨#[]⟩⟩], []⟩ := ⟨rfl, rfl⟩
  have hw : DiskS.write ⟨-1, false, c, [⟨topicsN, b, ⟨#[]⟩, ⟨#[]⟩⟩], []⟩ topicsN 0 raw = (0, if raw.size = 0 then ⟨-1, false, c, [⟨topicsN, b, ⟨#[]⟩, ⟨#[]⟩⟩], []⟩ else ⟨-1, false, c, [⟨topicsN, b, ⟨#[]⟩, raw⟩], [⟨b, 0, raw⟩]⟩) := by
    unfold DiskS.write
    rw [if_neg (show ¬ (false = true) from Bool.false_ne_true)]
    rw [show DiskS.find ⟨-1, false, c, [⟨topicsN, b, ⟨#[]⟩, ⟨#[]⟩⟩], []⟩ topicsN = some ⟨topicsN, b, ⟨#[]⟩, ⟨#[]⟩⟩ from rfl]
    have h0 : (⟨#[]⟩ : ByteArray).size = 0 := rfl
    have hz : DiskS.size ⟨-1, false, c, [⟨topicsN, b, ⟨#[]⟩, ⟨#[]⟩⟩], []⟩ = 0 := rfl
    simp only
    rw [hz, if_neg (by rw [h0]; omega), if_neg (by rw [h0]; omega), a1.doing]
    by_cases h : raw.size = 0
    · rw [if_pos h, if_pos h]
    · rw [if_neg h, if_neg h]
      unfold DiskS.turn
      simp only [List.map_cons, List.map_nil, if_true, List.nil_append]
      rw [show Int.toNat 0 = 0 from rfl, laid_empty]
  refine ⟨_, _, h1, hw, ?_⟩
  by_cases h : raw.size = 0
  · rw [if_pos h]
    have hr : raw = ⟨#[]⟩ := ba_ext (by
      have : raw.data.toList.length = 0 := by rw [size_toList]; exact h
      rw [List.eq_nil_of_length_eq_zero this])
    refine ⟨a1, rfl, by rw [hr]; rfl, ?_⟩
    show c = ((0 : Nat) : Int)
    omega
  · rw [if_neg h]
    refine ⟨⟨rfl, rfl⟩, rfl, rfl, ?_⟩
    have : DiskS.size ⟨-1, false, c, [⟨topicsN, b, ⟨#[]⟩, raw⟩], [⟨b, 0, raw⟩]⟩ = raw.size := by
      show raw.size + 0 = _
      omega
    rw [this]
    exact hcap
theorem open_size {t u : ByteArray} (h : openSeal t = some u) : u.size ≤ t.size := by
  unfold openSeal at h
  split at h
  · cases h
  · cases h
    rw [ByteArray.size_extract]
    omega
theorem Full.load {D : DiskS} {raw : ByteArray} (h : Full D raw) (hs : raw.size ≤ 304) : (loadD D topicsN).1.size ≤ 1000000 ∧ (openT D = (4, none) ∨ ∃ l, openT D = (0, some l)) := by
  unfold openT loadD
  rw [h.all]
  simp only [if_neg (show ¬ ((0 : Int) = 9) by decide)]
  cases ho : openSeal raw with
  | none => exact ⟨Nat.zero_le _, .inl rfl⟩
  | some t =>
    have h1 := open_size ho
    refine ⟨by simp only [ne_eq, not_true_eq_false, if_false]; omega, ?_⟩
    simp only [ne_eq, not_true_eq_false, if_false]
    cases getT t with
    | none => exact .inl rfl
    | some l => exact .inr ⟨l, rfl⟩
theorem Full.add {D : DiskS} {raw : ByteArray} (h : Full D raw) (l : List TopS) (b : Nat) : (addD D l ⟨quiteN, 1⟩ b).2.2 = l ∧ ((addD D l ⟨quiteN, 1⟩ b).1 = 7 ∨ (addD D l ⟨quiteN, 1⟩ b).1 = 6 ∨ (addD D l ⟨quiteN, 1⟩ b).1 = 10) := by
  have hp : nm.plainB quiteN = true := by decide
  have hr : rightC l ⟨quiteN, 1⟩ = 10 ∨ rightC l ⟨quiteN, 1⟩ = 6 ∨ rightC l ⟨quiteN, 1⟩ = 0 := by
    unfold rightC
    simp only [hp, Bool.true_eq_false, if_false]
    rw [if_neg (by omega)]
    split
    · exact .inl rfl
    · split
      · exact .inr (.inl rfl)
      · exact .inr (.inr rfl)
  unfold addD
  rcases hr with hr | hr | hr
  · rw [hr, if_pos (by decide)]; exact ⟨rfl, .inr (.inr rfl)⟩
  · rw [hr, if_pos (by decide)]; exact ⟨rfl, .inr (.inl rfl)⟩
  · rw [hr, if_neg (fun h => h rfl)]
    have h7 := h.save ⟨(putL (l ++ [⟨quiteN, 1⟩])).toArray⟩ b
    rw [if_pos (by rw [h7]; decide)]
    exact ⟨rfl, .inl h7⟩
set_option maxRecDepth 100000 in
set_option maxHeartbeats 60000000 in
theorem walk (W : World) (s : ByteArray) (z : s.size ≤ maxLen) (sl : Bool) :
    Calls Tryz.prog 5 #[.string s, .bool sl] W fun e W' => e = .returned (.bool true) ∧ Calm W W' := by
  go_enter Tryz.func5, Tryz.ntmps5
  go_wp2_with fail
  refine (tp.awake_any _).mono ?_
  rintro e w1 ⟨rfl, hca⟩
  have O1 := box ((Owns.refl W).calm' hca)
  clear hca
  by_cases hbig : 300 < s.size
  · go_wp2_with fail
    go_ret
    exact ⟨rfl, O1.out.calm⟩
  · have hs3 : s.size ≤ 300 := by omega
    clear hbig z
    have hseal := box (fun W => rSeal_any s W (by omega))
    go_upto_if 18 with fail
    go_cut [5] (fun s5 wx => ∃ raw : ByteArray, s5 = .string raw ∧ raw.size ≤ 304 ∧ Calm w1 wx)
    case first =>
      cases sl
      · go_wp2_with fail
        go_meet
        exact ⟨s, rfl, by omega, .refl _⟩
      · go_wp2_with fail
        refine (hseal.out _).mono ?_
        rintro e w2 ⟨rfl, hc2⟩
        have HC2 := box hc2
        clear hc2
        go_wp2_with fail
        go_meet
        exact ⟨_, rfl, by have := sealB_size s; unfold sealB at this; omega, HC2.out⟩
    case rest =>
      obtain ⟨raw, rfl, hraw, hcw⟩ := hcut
      have O2 := box (O1.out.calm' hcw)
      clear hcw O1 hseal hs3
      go_wp2_with fail
      refine (New_ok _ (raw.size : Int)).mono ?_
      rintro e w2 ⟨p, F, rfl, h2, hc2, hF2⟩
      have H2 := box h2
      have O3 := box (O2.out.new hc2 hF2)
      clear h2 hc2 hF2 O2
      go_wp2_with fail
      refine (Create_ok topicsN w2 H2.out).mono ?_
      rintro e w3 ⟨b3, _, hok⟩
      obtain ⟨D1, D2, hD1, hD2, hfull⟩ := full_made raw hraw b3
      obtain ⟨rfl, F3, h3, hs3⟩ := hok.at hD1
      have H3 := box h3
      have O4 := box (O3.out.step hs3)
      have HD2 := box hD2
      have HF := box hfull
      clear hok h3 hs3 hD1 hD2 hfull
      have hwr := box (Write_ok topicsN raw 0 w3 H3.out (by decide) (by omega))
      go_wp2_with fail
      refine hwr.out.mono ?_
      rintro e w4 hok
      obtain ⟨rfl, F4, h4, hs4⟩ := hok.at HD2.out
      have H4 := box h4
      have O5 := box (O4.out.step hs4)
      clear hok h4 hs4 hwr H2 H3 O3 O4
      go_wp2_with fail
      refine (Open_tb w4 H4.out (by rw [HF.out.all]; simp only; omega) (HF.out.load hraw).1).mono ?_
      rintro e w5 ⟨hc5, hx⟩
      have O6 := box (O5.out.calm' hc5)
      have H5 := box (H4.out.calm hc5)
      have Hlt := box (show ∀ b, F4 b → b < w4.heap.size from H4.out.foot_lt)
      rcases (HF.out.load hraw).2 with ho | ⟨l, ho⟩
      · rw [ho] at hx
        simp only at hx
        subst hx
        clear hc5 ho
        go_wp2_with fail
        refine (AddNil aN 1 _).mono ?_
        rintro e w6 ⟨rfl, rfl⟩
        go_wp2_with fail
        refine (CheckNil aN 0 _).mono ?_
        rintro e w6 ⟨rfl, rfl⟩
        go_wp2_with fail
        refine (QueuesNil aN _).mono ?_
        rintro e w6 ⟨rfl, rfl⟩
        go_wp2_with fail
        refine (AllNil _).mono ?_
        rintro e w6 ⟨rfl, rfl⟩
        go_wp2_with fail
        go_ret
        exact ⟨ret_bool (by simp), O6.out.calm⟩
      · rw [ho] at hx
        simp only at hx
        obtain ⟨t, rfl, hT, ht⟩ := hx
        have HT := box hT
        have HFt := box (show ¬ F4 t from fun hf => by have := Hlt.out t hf; omega)
        have Ht := box (show W.heap.size ≤ t from Nat.le_trans O5.out.calm.size ht)
        have hnm := box (fun f (hf : f ∈ D2.files) => (show f.name.size ≤ maxLen from by
          have h1 : f.name ∈ D2.files.map (·.name) := List.mem_map.2 ⟨f, hf, rfl⟩
          rw [HF.out.names, List.mem_singleton] at h1
          rw [h1]; decide))
        have hnl := box (show D2.files.length ≤ 1000000 from by
          have h1 := congrArg List.length HF.out.names
          rw [List.length_map] at h1
          rw [h1]; decide)
        have hl6 := HT.out.few
        clear hc5 ho hT ht
        go_wp2_with fail
        refine (AddNil aN 1 _).mono ?_
        rintro e w6 ⟨rfl, rfl⟩
        go_wp2_with fail
        refine (CheckNil aN 0 _).mono ?_
        rintro e w6 ⟨rfl, rfl⟩
        go_wp2_with fail
        refine (QueuesNil aN _).mono ?_
        rintro e w6 ⟨rfl, rfl⟩
        go_wp2_with fail
        refine (AllNil _).mono ?_
        rintro e w6 ⟨rfl, rfl⟩
        go_wp2_with fail
        refine (tAll_any _ HT.out).mono ?_
        rintro e w6 ⟨v6, rfl, hr6, hc6⟩
        obtain ⟨a6, cap6, rfl, _⟩ := topRow.tops hr6
        have HT6 := box (HT.out.calm hc6)
        have H6 := box (H5.out.calm hc6)
        have O7 := box (O6.out.calm' hc6)
        clear hr6 hc6
        have hadd := box (Add_any quiteN 1 w6 H6.out HT6.out HFt.out (by decide) hnm.out hnl.out)
        go_wp2_with fail
        refine hadd.out.mono ?_
        rintro e w7 ⟨b7, F7, hb7, rfl, hd7, hT7, hs7, hF7⟩
        obtain ⟨hl7, hc7⟩ := HF.out.add l b7
        rw [hl7] at hT7
        have HT7 := box hT7
        have HC7 := box (show Calm W w7 from Below.trans O7.out.calm (hs7.keeps.below O7.out.calm.size (fun x hx => hx.elim (O7.out.foot x) (fun e => e ▸ Ht.out))))
        obtain ⟨c, hc⟩ : ∃ c, (addD D2 l ⟨quiteN, 1⟩ b7).1 = c := ⟨_, rfl⟩
        rw [hc] at hc7 ⊢
        clear hc hd7 hT7 hs7 hF7 hb7 hl7 hadd
        rcases hc7 with rfl | rfl | rfl
        all_goals
          go_wp2_with fail
          refine (tAll_any _ HT7.out).mono ?_
          rintro e w8 ⟨v8, rfl, hr8, hc8⟩
          obtain ⟨a8, cap8, rfl, _⟩ := topRow.tops hr8
          have HC8 := box (HC7.out.trans hc8)
          clear hr8 hc8
          go_wp2_with fail
          go_ret
          exact ⟨ret_bool (by simp), HC8.out⟩
end Go.Proofs.YtccbfekajbnehaaGreat.tforms
