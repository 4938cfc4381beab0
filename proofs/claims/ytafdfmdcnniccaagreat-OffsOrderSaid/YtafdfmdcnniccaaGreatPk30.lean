/- Layer 14's laws: rising. -/
import Derived.Test.YtafdfmdcnniccaaGreatRows
import Derived.WalkKit
import Derived.ProofKit
import Derived.OpenShut
import Derived.Handy
import Derived.Deep.LoopGhost
import Derived.Lib.Hide
import Derived.Lib.Strings
import Derived.SizedLaws
import Derived.Maps.Own
import Derived.Maps.OwnOps
import Derived.Maps.OwnSet
import Derived.Maps.RangeWalk
import Derived.Deep.QuietTactic
import Derived.BigQuiet
import Derived.Deep.RegionHeld3
import Derived.Lib.ConvBytes
import Derived.Lib.AppendZeros
import Derived.Lib.AppendZerosOnto
import Derived.Lib.LazyBuf
import Derived.Shelf.Abstract
import Derived.LaidEql
import Derived.Lib.SliceRun
import Derived.StillTailTactics
import Derived.Deep.Slices
import Derived.Outline
import Derived.Laws.Cover1
import Derived.Deep.RegionLaw
import Derived.Deep.DeepCutAuto
import Derived.Deep.CutBlock
import Derived.Shelf.SlicesE.Clone
import Derived.Ground.SlgnProg
import Derived.Test.YtafdfmdcnniccaaGreatProg
import Derived.Shelf.Strings.Builder1
import Derived.Shelf.Small.Bits
import Derived.Shelf.Small.Wraps
import Derived.Shelf.Strings.BuilderF
import Derived.Shelf.Strings.BuilderK
import Derived.Shelf.Strconv.Itoa0
import Derived.Shelf.Sort.Plain
import Derived.Shelf.GgClosure.StringsIndexFunc
import Derived.Ground.GgwProg
import Derived.Shelf.GgClosure.StringsIndexFuncTop
import Derived.Shelf.GgClosure.StringsRunes
import Derived.Shelf.Strings.Prefix
import Derived.Shelf.Strings.BuilderCap
import Derived.Ground.Names2Prog
import Derived.Shelf.Slices.SearchI
import Derived.Shelf.Slices.In.SortNone
import Derived.Ground.SlgfProg
import Derived.Shelf.SlicesE.IndexFunc
import Derived.Shelf.SlicesE.DeleteFunc
import Derived.Lib.DecodeN
import Derived.Lib.Overlaps
import Derived.Laws.CopyOwn
import Derived.Laws.MakeOwn
import Derived.Lib.Builder
import Derived.Lib.AppendStr
import Derived.Laws.Rows
import Derived.Shelf.SlIter.Nil
import Derived.Ground.GgzProg
import Derived.Shelf.SortM.Plain
import Derived.Shelf.SortM.SortNone
import Derived.Ground.SlgmProg
import Derived.Laws.BitsLemmas
import Derived.Laws.ResultCell
import Derived.Laws.StructEq
import Derived.Laws.Cover3
import Derived.OwnWalk
import Derived.Test.YtafdfmdcnniccaaGreatPk29
namespace Go.Proofs.YtafdfmdcnniccaaGreat.ofs
open Go.ChangeShapes Go.WideShapes Go.ChangeAt Go.RowKit
open Go.Proofs.YtafdfmdcnniccaaGreat.dk Go.Proofs.YtafdfmdcnniccaaGreat.nm

theorem set4_heap {w : World} {g : Nat} {a b c d : Value} {T : TypeId} (h : w.heap[g]? = some (.cells #[a, b, c, d] T (0, 0))) (x : OffS) : (set4 w g 0 x).heap[g]? = some (.cells (offA x) T (0, 0)) :=
  heap_set (heap_set (heap_set (heap_set h 0 (.string x.group)) 1 (.string x.topic)) 2 (.int .i64 x.queue)) 3 (.int .i64 x.at_)
theorem set4_other {w : World} {g k : Nat} (h : g ≠ k) (o : Nat) (x : OffS) : (set4 w k o x).heap[g]? = w.heap[g]? :=
  (heap_set_other h _ _).trans ((heap_set_other h _ _).trans ((heap_set_other h _ _).trans (heap_set_other h _ _)))
set_option maxRecDepth 100000 in
set_option maxHeartbeats 4000000 in
theorem rising_any (v : Value) (l : List OffS) (w : World) (h : OffsAt w v l) (hl : l.length ≤ 1000000) (hR : Rising l) :
    Calls Tryz.prog 19 #[v] w fun e w' => e = .returned (.bool true) ∧ Calm w w' := by
  obtain ⟨a, cap, rfl, _, hc⟩ := h
  have Hc := box hc
  have HR := box hR
  clear hc hR
  go_enter Tryz.func19, Tryz.ntmps19
  go_wp2_with fail
  go_loopw [3] (fun iv wr => ∃ k : Nat, 1 ≤ k ∧ (k ≤ l.length ∨ k = 1) ∧ iv = .int .i64 k ∧ Calm w wr) (fun iv _ => l.length - (intOf iv).toNat)
  case atStart => exact ⟨1, Nat.le_refl _, .inr rfl, rfl, .refl _⟩
  case round =>
    obtain ⟨k, hk1, hk, rfl, hcr⟩ := hrel
    have HCr := box hcr
    clear hcr
    obtain ⟨wo, hwo⟩ : ∃ wo : World, wo = wr := ⟨_, rfl⟩
    subst hwo
    by_cases hlt : k < l.length
    · obtain ⟨m, rfl⟩ : ∃ m, k = m + 1 := ⟨k - 1, by omega⟩
      obtain ⟨b, off, rfl, hb, d0, d1, d2, d3⟩ := Hc.out m (by omega)
      obtain ⟨b', off', he, _, e0, e1, e2, e3⟩ := Hc.out (m + 1) hlt
      cases he
      have hord := List.pairwise_iff_getElem.1 HR.out m (m + 1) (by omega) hlt (by omega)
      have c0 := (HCr.out.cell (p := ⟨b, off + m * 4, none⟩) hb).trans d0
      have c1 := (HCr.out.cell (p := ⟨b, off + m * 4 + 1, none⟩) hb).trans d1
      have c2 := (HCr.out.cell (p := ⟨b, off + m * 4 + 2, none⟩) hb).trans d2
      have c3 := (HCr.out.cell (p := ⟨b, off + m * 4 + 3, none⟩) hb).trans d3
      have f0 := (HCr.out.cell (p := ⟨b, off + (m + 1) * 4, none⟩) hb).trans e0
      have f1 := (HCr.out.cell (p := ⟨b, off + (m + 1) * 4 + 1, none⟩) hb).trans e1
      have f2 := (HCr.out.cell (p := ⟨b, off + (m + 1) * 4 + 2, none⟩) hb).trans e2
      have f3 := (HCr.out.cell (p := ⟨b, off + (m + 1) * 4 + 3, none⟩) hb).trans e3
      have hb' := Nat.lt_of_lt_of_le hb HCr.out.size
      obtain ⟨⟨xg, xt, xq, xa⟩, hx⟩ : ∃ x, l[m] = x := ⟨_, rfl⟩
      obtain ⟨⟨yg, yt, yq, ya⟩, hy⟩ : ∃ y, l[m + 1] = y := ⟨_, rfl⟩
      simp only [hx, hy] at c0 c1 c2 c3 f0 f1 f2 f3 hord
      have hm : ((m + 1 : Nat) : Int) - 1 = (m : Int) := by omega
      have hmlt : m < l.length := by omega
      clear d0 d1 d2 d3 e0 e1 e2 e3 hx hy
      rw [ord_lt] at hord
      simp only at hord
      go_upto_region 4 with fail
      have hwr : IntKind.i64.wrap ((m + 1 : Nat) - 1 : Int) = (m : Int) := by rw [IntKind.wrap_i64]; omega
      have hwm : IntKind.i64.wrap (m : Int) = (m : Int) := by rw [IntKind.wrap_i64]; omega
      have hm0 : (0 : Int) ≤ (m : Int) + 1 := by omega
      have hwr2 : IntKind.i64.wrap ((m : Int) + 1 - 1) = (m : Int) := by rw [IntKind.wrap_i64]; omega
      have hS := box (fun W (hc : Calm wo W) => (show Box (W.cell? ⟨b, off + m * 4, none⟩ = some (.string xg) ∧ W.cell? ⟨b, off + m * 4 + 1, none⟩ = some (.string xt) ∧ W.cell? ⟨b, off + m * 4 + 2, none⟩ = some (.int .i64 xq) ∧ W.cell? ⟨b, off + m * 4 + 3, none⟩ = some (.int .i64 xa) ∧ W.cell? ⟨b, off + (m + 1) * 4, none⟩ = some (.string yg) ∧ W.cell? ⟨b, off + (m + 1) * 4 + 1, none⟩ = some (.string yt) ∧ W.cell? ⟨b, off + (m + 1) * 4 + 2, none⟩ = some (.int .i64 yq) ∧ W.cell? ⟨b, off + (m + 1) * 4 + 3, none⟩ = some (.int .i64 ya)) ∧ Box True from ⟨box ⟨(hc.cell (p := ⟨b, off + m * 4, none⟩) hb').trans c0, (hc.cell (p := ⟨b, off + m * 4 + 1, none⟩) hb').trans c1, (hc.cell (p := ⟨b, off + m * 4 + 2, none⟩) hb').trans c2, (hc.cell (p := ⟨b, off + m * 4 + 3, none⟩) hb').trans c3, (hc.cell (p := ⟨b, off + (m + 1) * 4, none⟩) hb').trans f0, (hc.cell (p := ⟨b, off + (m + 1) * 4 + 1, none⟩) hb').trans f1, (hc.cell (p := ⟨b, off + (m + 1) * 4 + 2, none⟩) hb').trans f2, (hc.cell (p := ⟨b, off + (m + 1) * 4 + 3, none⟩) hb').trans f3⟩, box trivial⟩))
      refine wp_region_held_drew (S := fun W => Box (W.cell? ⟨b, off + m * 4, none⟩ = some (.string xg) ∧ W.cell? ⟨b, off + m * 4 + 1, none⟩ = some (.string xt) ∧ W.cell? ⟨b, off + m * 4 + 2, none⟩ = some (.int .i64 xq) ∧ W.cell? ⟨b, off + m * 4 + 3, none⟩ = some (.int .i64 xa) ∧ W.cell? ⟨b, off + (m + 1) * 4, none⟩ = some (.string yg) ∧ W.cell? ⟨b, off + (m + 1) * 4 + 1, none⟩ = some (.string yt) ∧ W.cell? ⟨b, off + (m + 1) * 4 + 2, none⟩ = some (.int .i64 yq) ∧ W.cell? ⟨b, off + (m + 1) * 4 + 3, none⟩ = some (.int .i64 ya)) ∧ Box True) (by kernel_rfl) (hS.out _ (Calm.refl wo).drew) (fun hHeld => ?_)
      ((refine' wpAnyH_take (i := 0) (v := _) rfl (by kernel_rfl) (by kernel_rfl) (by kernel_rfl) (fun _ _ _ h => h) (Or.inl ⟨by rfl, ?hy713⟩) (by assumption) ?rest713; (case hy713 => (intro w hSw; (try dsimp only at hSw); go_simp <;> with_reducible rfl)); simp only [List.getElem_toArray, List.getElem_cons_succ, List.getElem_cons_zero, Act.put, List.setIfInBounds_toArray, List.set_cons_zero, List.set_cons_succ]); (refine' wpAnyH_take (i := 1) (v := _) rfl (by kernel_rfl) (by kernel_rfl) (by kernel_rfl) (fun _ _ _ h => h) (Or.inl ⟨by rfl, ?hy714⟩) (by assumption) ?rest714; (case hy714 => (intro w hSw; (try dsimp only at hSw); go_simp <;> with_reducible rfl)); simp only [List.getElem_toArray, List.getElem_cons_succ, List.getElem_cons_zero, Act.put, List.setIfInBounds_toArray, List.set_cons_zero, List.set_cons_succ]); (refine' wpAnyH_take (i := 2) (v := _) rfl (by kernel_rfl) (by kernel_rfl) (by kernel_rfl) (fun _ _ _ h => h) (Or.inl ⟨by rfl, ?hy715⟩) (by assumption) ?rest715; (case hy715 => (intro w hSw; (try dsimp only at hSw); go_simp <;> with_reducible rfl)); simp only [List.getElem_toArray, List.getElem_cons_succ, List.getElem_cons_zero, Act.put, List.setIfInBounds_toArray, List.set_cons_zero, List.set_cons_succ]); (refine' wpAnyH_take (i := 3) (v := _) rfl (by kernel_rfl) (by kernel_rfl) (by kernel_rfl) (fun _ _ _ h => h) (Or.inl ⟨by rfl, ?hy716⟩) (by assumption) ?rest716; (case hy716 => (intro w hSw; (try dsimp only at hSw); go_simp <;> with_reducible rfl)); simp only [List.getElem_toArray, List.getElem_cons_succ, List.getElem_cons_zero, Act.put, List.setIfInBounds_toArray, List.set_cons_zero, List.set_cons_succ]))
      ((refine' wpAnyH_take (i := 4) (v := _) rfl (by kernel_rfl) (by kernel_rfl) (by kernel_rfl) (fun _ _ _ h => h) (Or.inl ⟨by rfl, ?hy717⟩) (by assumption) ?rest717; (case hy717 => (intro w hSw; obtain ⟨⟨hSw1⟩, ⟨hSw2⟩⟩ := hSw; go_simp <;> with_reducible rfl)); simp only [List.getElem_toArray, List.getElem_cons_succ, List.getElem_cons_zero, Act.put, List.setIfInBounds_toArray, List.set_cons_zero, List.set_cons_succ]))
      ((refine' wpAnyH_take (i := 5) (v := _) rfl (by kernel_rfl) (by kernel_rfl) (by kernel_rfl) (fun _ _ _ h => h) (Or.inl ⟨by rfl, ?hy718⟩) (by assumption) ?rest718; (case hy718 => (intro w hSw; (try dsimp only at hSw); go_simp <;> with_reducible rfl)); simp only [List.getElem_toArray, List.getElem_cons_succ, List.getElem_cons_zero, Act.put, List.setIfInBounds_toArray, List.set_cons_zero, List.set_cons_succ]); (refine' wpAnyH_take (i := 6) (v := _) rfl (by kernel_rfl) (by kernel_rfl) (by kernel_rfl) (fun _ _ _ h => h) (Or.inl ⟨by rfl, ?hy719⟩) (by assumption) ?rest719; (case hy719 => (intro w hSw; (try dsimp only at hSw); go_simp <;> with_reducible rfl)); simp only [List.getElem_toArray, List.getElem_cons_succ, List.getElem_cons_zero, Act.put, List.setIfInBounds_toArray, List.set_cons_zero, List.set_cons_succ]); (refine' wpAnyH_take (i := 7) (v := _) rfl (by kernel_rfl) (by kernel_rfl) (by kernel_rfl) (fun _ _ _ h => h) (Or.inl ⟨by rfl, ?hy720⟩) (by assumption) ?rest720; (case hy720 => (intro w hSw; (try dsimp only at hSw); go_simp <;> with_reducible rfl)); simp only [List.getElem_toArray, List.getElem_cons_succ, List.getElem_cons_zero, Act.put, List.setIfInBounds_toArray, List.set_cons_zero, List.set_cons_succ]))
      ((refine' wpAnyH_take (i := 8) (v := _) rfl (by kernel_rfl) (by kernel_rfl) (by kernel_rfl) (fun _ _ _ h => h) (Or.inl ⟨by rfl, ?hy721⟩) (by assumption) ?rest721; (case hy721 => (intro w hSw; obtain ⟨⟨hSw1⟩, ⟨hSw2⟩⟩ := hSw; go_simp <;> with_reducible rfl)); simp only [List.getElem_toArray, List.getElem_cons_succ, List.getElem_cons_zero, Act.put, List.setIfInBounds_toArray, List.set_cons_zero, List.set_cons_succ]))
      refine wpAnyH_ready (rs := [9, 10]) (by kernel_rfl) (by simp) ?_
      refine AllReadyH.cons rfl (fun K hK => ?g9) (AllReadyH.cons rfl (fun K hK => ?g10) AllReadyH.nil)
      case' g9 =>
        rw [if_pos (by rfl)]
        go_simp
        refine hK.out _ _ (hS.out _ ((Calm.refl wo).alloc _).drew) (fun hHeld => ?_)
        clear hK K
        try simp only [List.getElem_toArray, List.getElem_cons_succ, List.getElem_cons_zero, Act.put, List.setIfInBounds_toArray, List.set_cons_zero, List.set_cons_succ]
        refine wpAnyH_ready (rs := [10]) (by kernel_rfl) (by simp) ?_
        refine AllReadyH.cons rfl (fun K hK => ?_) AllReadyH.nil
        rw [if_pos (by rfl)]
        go_simp
        refine hK.out _ _ (hS.out _ (((Calm.refl wo).alloc _).alloc _).drew) (fun hHeld => ?_)
        clear hK K
        try simp only [List.getElem_toArray, List.getElem_cons_succ, List.getElem_cons_zero, Act.put, List.setIfInBounds_toArray, List.set_cons_zero, List.set_cons_succ]
        obtain ⟨w2, hw2⟩ : ∃ w2, ((wo.alloc (.cells #[.string ⟨#[]⟩, .string ⟨#[]⟩, .int .i64 0, .int .i64 0] 31)).alloc (.cells #[.string ⟨#[]⟩, .string ⟨#[]⟩, .int .i64 0, .int .i64 0] 31)).drew = w2 := ⟨_, rfl⟩
        have hb0 : w2.heap[wo.heap.size]? = some (.cells #[.string ⟨#[]⟩, .string ⟨#[]⟩, .int .i64 0, .int .i64 0] 31 (0, 0)) := by rw [← hw2]; exact heap_calm ((Calm.refl (wo.alloc (.cells #[.string ⟨#[]⟩, .string ⟨#[]⟩, .int .i64 0, .int .i64 0] 31))).alloc (.cells #[.string ⟨#[]⟩, .string ⟨#[]⟩, .int .i64 0, .int .i64 0] 31)).drew (heap_new wo _)
        have hb1 : w2.heap[wo.heap.size + 1]? = some (.cells #[.string ⟨#[]⟩, .string ⟨#[]⟩, .int .i64 0, .int .i64 0] 31 (0, 0)) := by
          have := heap_new (wo.alloc (.cells #[.string ⟨#[]⟩, .string ⟨#[]⟩, .int .i64 0, .int .i64 0] 31)) (.cells #[.string ⟨#[]⟩, .string ⟨#[]⟩, .int .i64 0, .int .i64 0] 31)
          rw [World.size_alloc] at this
          rw [← hw2]; exact this
        have hC2 : Calm wo w2 := by rw [← hw2]; exact (((Calm.refl wo).alloc (.cells #[.string ⟨#[]⟩, .string ⟨#[]⟩, .int .i64 0, .int .i64 0] 31)).alloc (.cells #[.string ⟨#[]⟩, .string ⟨#[]⟩, .int .i64 0, .int .i64 0] 31)).drew
        rw [hw2] at hHeld ⊢
        obtain ⟨bx, hbx⟩ : ∃ bx, wo.heap.size = bx := ⟨_, rfl⟩
        obtain ⟨by_, hby⟩ : ∃ by_, wo.heap.size + 1 = by_ := ⟨_, rfl⟩
        have hne : by_ ≠ bx := by omega
        have hbxg : wo.heap.size ≤ bx := by omega
        have hbyg : wo.heap.size ≤ by_ := by omega
        rw [hbx] at hb0
        rw [hby] at hb1
        rw [hby, hbx]
        clear hw2 hbx hby
        have HX2 := hb0
        have HY2 := hb1
        clear hb0 hb1
      case' g10 =>
        rw [if_pos (by rfl)]
        go_simp
        refine hK.out _ _ (hS.out _ ((Calm.refl wo).alloc _).drew) (fun hHeld => ?_)
        clear hK K
        try simp only [List.getElem_toArray, List.getElem_cons_succ, List.getElem_cons_zero, Act.put, List.setIfInBounds_toArray, List.set_cons_zero, List.set_cons_succ]
        refine wpAnyH_ready (rs := [9]) (by kernel_rfl) (by simp) ?_
        refine AllReadyH.cons rfl (fun K hK => ?_) AllReadyH.nil
        rw [if_pos (by rfl)]
        go_simp
        refine hK.out _ _ (hS.out _ (((Calm.refl wo).alloc _).alloc _).drew) (fun hHeld => ?_)
        clear hK K
        try simp only [List.getElem_toArray, List.getElem_cons_succ, List.getElem_cons_zero, Act.put, List.setIfInBounds_toArray, List.set_cons_zero, List.set_cons_succ]
        obtain ⟨w2, hw2⟩ : ∃ w2, ((wo.alloc (.cells #[.string ⟨#[]⟩, .string ⟨#[]⟩, .int .i64 0, .int .i64 0] 31)).alloc (.cells #[.string ⟨#[]⟩, .string ⟨#[]⟩, .int .i64 0, .int .i64 0] 31)).drew = w2 := ⟨_, rfl⟩
        have hb0 : w2.heap[wo.heap.size]? = some (.cells #[.string ⟨#[]⟩, .string ⟨#[]⟩, .int .i64 0, .int .i64 0] 31 (0, 0)) := by rw [← hw2]; exact heap_calm ((Calm.refl (wo.alloc (.cells #[.string ⟨#[]⟩, .string ⟨#[]⟩, .int .i64 0, .int .i64 0] 31))).alloc (.cells #[.string ⟨#[]⟩, .string ⟨#[]⟩, .int .i64 0, .int .i64 0] 31)).drew (heap_new wo _)
        have hb1 : w2.heap[wo.heap.size + 1]? = some (.cells #[.string ⟨#[]⟩, .string ⟨#[]⟩, .int .i64 0, .int .i64 0] 31 (0, 0)) := by
          have := heap_new (wo.alloc (.cells #[.string ⟨#[]⟩, .string ⟨#[]⟩, .int .i64 0, .int .i64 0] 31)) (.cells #[.string ⟨#[]⟩, .string ⟨#[]⟩, .int .i64 0, .int .i64 0] 31)
          rw [World.size_alloc] at this
          rw [← hw2]; exact this
        have hC2 : Calm wo w2 := by rw [← hw2]; exact (((Calm.refl wo).alloc (.cells #[.string ⟨#[]⟩, .string ⟨#[]⟩, .int .i64 0, .int .i64 0] 31)).alloc (.cells #[.string ⟨#[]⟩, .string ⟨#[]⟩, .int .i64 0, .int .i64 0] 31)).drew
        rw [hw2] at hHeld ⊢
        obtain ⟨bx, hbx⟩ : ∃ bx, wo.heap.size + 1 = bx := ⟨_, rfl⟩
        obtain ⟨by_, hby⟩ : ∃ by_, wo.heap.size = by_ := ⟨_, rfl⟩
        have hne : by_ ≠ bx := by omega
        have hbxg : wo.heap.size ≤ bx := by omega
        have hbyg : wo.heap.size ≤ by_ := by omega
        rw [hby] at hb0
        rw [hbx] at hb1
        rw [hbx, hby]
        clear hw2 hbx hby
        have HX2 := hb1
        have HY2 := hb0
        clear hb0 hb1
      all_goals
        have p0 := cell_of HX2 0
        have p1 := cell_of HX2 1
        have p2 := cell_of HX2 2
        have p3 := cell_of HX2 3
        have pf0 := free_of HX2 0
        have pf1 := free_of HX2 1
        have pf2 := free_of HX2 2
        have pf3 := free_of HX2 3
        have plt := heap_lt HX2
        refine wpAnyH_ready (rs := [11]) (by kernel_rfl) (by simp) ?_
        refine AllReadyH.cons rfl (fun K hK => ?_) AllReadyH.nil
        rw [if_pos (by rfl)]
        go_simp
        have hX3 := set4_heap HX2 ⟨xg, xt, xq, xa⟩
        have hY3 := (set4_other hne 0 ⟨xg, xt, xq, xa⟩).trans HY2
        have hC3 : Calm wo (set4 w2 bx 0 ⟨xg, xt, xq, xa⟩) := (set4_keeps (Keeps.of_calm (F := fun _ => False) hC2) (.inr hbxg) 0 ⟨xg, xt, xq, xa⟩).below (Nat.le_refl _) (fun _ h => h.elim)
        refine hK.out _ _ (hS.out _ hC3) (fun hHeld => ?_)
        clear hK K
        try simp only [List.getElem_toArray, List.getElem_cons_succ, List.getElem_cons_zero, Act.put, List.setIfInBounds_toArray, List.set_cons_zero, List.set_cons_succ]
        obtain ⟨w3, hw3⟩ : ∃ w3, set4 w2 bx 0 ⟨xg, xt, xq, xa⟩ = w3 := ⟨_, rfl⟩
        have hw3' : (((w2.setCell ⟨bx, 0, none⟩ (.string xg)).setCell ⟨bx, 1, none⟩ (.string xt)).setCell ⟨bx, 2, none⟩ (.int .i64 xq)).setCell ⟨bx, 3, none⟩ (.int .i64 xa) = w3 := hw3
        rw [hw3] at hX3 hY3 hC3
        rw [hw3'] at hHeld ⊢
        clear hw3 hw3' p0 p1 p2 p3 pf0 pf1 pf2 pf3 plt HX2 HY2
        have p0 := cell_of hY3 0
        have p1 := cell_of hY3 1
        have p2 := cell_of hY3 2
        have p3 := cell_of hY3 3
        have pf0 := free_of hY3 0
        have pf1 := free_of hY3 1
        have pf2 := free_of hY3 2
        have pf3 := free_of hY3 3
        have plt := heap_lt hY3
        refine wpAnyH_ready (rs := [12]) (by kernel_rfl) (by simp) ?_
        refine AllReadyH.cons rfl (fun K hK => ?_) AllReadyH.nil
        rw [if_pos (by rfl)]
        go_simp
        have hY4 := set4_heap hY3 ⟨yg, yt, yq, ya⟩
        have hX4 := (set4_other (fun e => hne e.symm) 0 ⟨yg, yt, yq, ya⟩).trans hX3
        have hC4 : Calm wo (set4 w3 by_ 0 ⟨yg, yt, yq, ya⟩) := (set4_keeps (Keeps.of_calm (F := fun _ => False) hC3) (.inr hbyg) 0 ⟨yg, yt, yq, ya⟩).below (Nat.le_refl _) (fun _ h => h.elim)
        refine hK.out _ _ (hS.out _ hC4) (fun hHeld => ?_)
        clear hK K
        try simp only [List.getElem_toArray, List.getElem_cons_succ, List.getElem_cons_zero, Act.put, List.setIfInBounds_toArray, List.set_cons_zero, List.set_cons_succ]
        obtain ⟨w4, hw4⟩ : ∃ w4, set4 w3 by_ 0 ⟨yg, yt, yq, ya⟩ = w4 := ⟨_, rfl⟩
        have hw4' : (((w3.setCell ⟨by_, 0, none⟩ (.string yg)).setCell ⟨by_, 1, none⟩ (.string yt)).setCell ⟨by_, 2, none⟩ (.int .i64 yq)).setCell ⟨by_, 3, none⟩ (.int .i64 ya) = w4 := hw4
        rw [hw4] at hX4 hY4 hC4
        rw [hw4'] at hHeld ⊢
        clear hw4 hw4' p0 p1 p2 p3 pf0 pf1 pf2 pf3 plt hX3 hY3 hC3 hHeld
        refine wpAnyH_done (by kernel_rfl) ?_ _
        unfold offA at hX4 hY4
        simp only at hX4 hY4
        have x0 := cell_of hX4 0
        have y0 := cell_of hY4 0
        have x1 := cell_of hX4 1
        have y1 := cell_of hY4 1
        have x2 := cell_of hX4 2
        have y2 := cell_of hY4 2
        have xlt := heap_lt hX4
        have ylt := heap_lt hY4
        have HC4 := box hC4
        clear hX4 hY4 hC4 hS c0 c1 c2 c3 f0 f1 f2 f3
        rcases hord with hg | ⟨hg, ht | ⟨ht, hq⟩⟩
        · have n1 : Op.bytesLess xg.toList yg.toList = true := cmpB_lt.1 hg
          have n2 : (xg.toList == yg.toList) = false := bytes_ne (fun e => by rw [cmpB_zero.2 e] at hg; omega)
          clear hg
          go_wp2_with fail
          go_roundw
          case rel => exact ⟨m + 2, by omega, .inl (by omega), by go_num, HCr.out.trans HC4.out⟩
          case measure => simp [intOf]; omega
        · have n1 : Op.bytesLess xg.toList yg.toList = false := by rw [hg]; exact less_irrefl _
          have n2 : (xg.toList == yg.toList) = true := by rw [hg]; exact beq_self_eq_true _
          have n3 : Op.bytesLess xt.toList yt.toList = true := cmpB_lt.1 ht
          have n4 : (xt.toList == yt.toList) = false := bytes_ne (fun e => by rw [cmpB_zero.2 e] at ht; omega)
          clear hg ht
          go_wp2_with fail
          go_roundw
          case rel => exact ⟨m + 2, by omega, .inl (by omega), by go_num, HCr.out.trans HC4.out⟩
          case measure => simp [intOf]; omega
        · have n1 : Op.bytesLess xg.toList yg.toList = false := by rw [hg]; exact less_irrefl _
          have n2 : (xg.toList == yg.toList) = true := by rw [hg]; exact beq_self_eq_true _
          have n3 : Op.bytesLess xt.toList yt.toList = false := by rw [ht]; exact less_irrefl _
          have n4 : (xt.toList == yt.toList) = true := by rw [ht]; exact beq_self_eq_true _
          clear hg ht
          go_wp2_with fail
          go_roundw
          case rel => exact ⟨m + 2, by omega, .inl (by omega), by go_num, HCr.out.trans HC4.out⟩
          case measure => simp [intOf]; omega
    · go_wp2_with fail
      go_ret
      exact ⟨rfl, HCr.out⟩
end Go.Proofs.YtafdfmdcnniccaaGreat.ofs

/- Layer 14's laws, plain: in whatever order unlike offsets are set. -/
namespace Go.Proofs.YtafdfmdcnniccaaGreat.ofs
open Go.ChangeShapes Go.WideShapes Go.ChangeAt Go.RowKit
open Go.Proofs.YtafdfmdcnniccaaGreat.dk Go.Proofs.YtafdfmdcnniccaaGreat.nm

def hitO (y x : OffS) : Bool := decide (rightO x = 0) && sameK y x
theorem setL_find {l : List OffS} (h : GoodL l) (x y : OffS) (hlen : l.length < 64) : findO (setL l x) y = if hitO y x = true then some x else findO l y := by
  unfold setL
  by_cases hr : rightO x = 0
  · have hc : setC l x = 0 := by
      unfold setC
      rw [if_neg (by simp [hr])]
      split
      · rfl
      · rw [if_neg (by omega)]
    rw [if_pos hc, set_find x y h.rising]
    unfold hitO
    simp [hr]
  · have hc : setC l x ≠ 0 := by
      unfold setC
      rw [if_pos hr]; exact hr
    rw [if_neg hc]
    unfold hitO
    simp [hr]
theorem setL_len {l : List OffS} (h : GoodL l) (x : OffS) : (setL l x).length ≤ l.length + 1 := by
  unfold setL
  split
  · rw [set_length l x h.rising]
    split <;> omega
  · omega
theorem res_good : ∀ (l acc : List OffS), GoodL acc → GoodL (l.foldl setL acc)
  | [], _, h => h
  | x :: l, acc, h => res_good l (setL acc x) (setL_good h x)
theorem res_find : ∀ (l acc : List OffS), GoodL acc → acc.length + l.length ≤ 64 → ∀ y, findO (l.foldl setL acc) y = match l.reverse.find? (hitO y) with
    | some x => some x
    | none => findO acc y
  | [], acc, _, _, y => rfl
  | x :: l, acc, h, hl, y => by
    rw [List.length_cons] at hl
    have hx := setL_len h x
    have ih := res_find l (setL acc x) (setL_good h x) (by omega) y
    rw [List.foldl_cons, ih, setL_find h x y (by omega), List.reverse_cons, List.find?_append]
    cases l.reverse.find? (hitO y) with
    | some z => rfl
    | none =>
      simp only [List.find?_cons, List.find?_nil]
      cases hitO y x <;> rfl
/-- No two are of the same. -/
def Unlike (l : List OffS) : Prop := l.Pairwise fun a b => sameK a b = false
theorem unlike_one {l : List OffS} (h : Unlike l) {a b : OffS} (ha : a ∈ l) (hb : b ∈ l) (hs : sameK a b = true) : a = b := by
  obtain ⟨i, hi, rfl⟩ := List.getElem_of_mem ha
  obtain ⟨j, hj, rfl⟩ := List.getElem_of_mem hb
  rcases Nat.lt_trichotomy i j with hij | rfl | hij
  · have := List.pairwise_iff_getElem.1 h i j hi hj hij
    rw [hs] at this; cases this
  · rfl
  · have := List.pairwise_iff_getElem.1 h j i hj hi hij
    rw [sameK_comm hs] at this; cases this
theorem hit_same {y a b : OffS} (ha : hitO y a = true) (hb : hitO y b = true) : sameK a b = true := by
  unfold hitO at ha hb
  rw [Bool.and_eq_true] at ha hb
  obtain ⟨a1, a2, a3⟩ := sameK_iff.1 ha.2
  obtain ⟨b1, b2, b3⟩ := sameK_iff.1 hb.2
  exact sameK_iff.2 ⟨b1.trans a1.symm, b2.trans a2.symm, b3.trans a3.symm⟩
theorem find_turned {l : List OffS} (h : Unlike l) (y : OffS) : l.reverse.find? (hitO y) = l.find? (hitO y) := by
  cases h1 : l.find? (hitO y) with
  | none =>
    rw [List.find?_eq_none] at h1 ⊢
    exact fun x hx => h1 x (List.mem_reverse.1 hx)
  | some a =>
    have ha := List.find?_some h1
    have hm := List.mem_of_find?_eq_some h1
    cases h2 : l.reverse.find? (hitO y) with
    | none =>
      rw [List.find?_eq_none] at h2
      exact absurd ha (h2 a (List.mem_reverse.2 hm))
    | some b =>
      have hb := List.find?_some h2
      rw [unlike_one h hm (List.mem_reverse.1 (List.mem_of_find?_eq_some h2)) (hit_same ha hb)]
theorem unlike_turned {l : List OffS} (h : Unlike l) : Unlike l.reverse := by
  unfold Unlike at h ⊢
  rw [List.pairwise_reverse]
  exact h.imp fun {a b} hab => by
    cases hs : sameK b a with
    | false => rfl
    | true => rw [sameK_comm hs] at hab; cases hab
theorem order_same {l : List OffS} (h : Unlike l) (hl : l.length ≤ 30) : l.foldl setL [] = l.reverse.foldl setL [] := by
  refine rising_ext (res_good l [] GoodL.nil).rising (res_good l.reverse [] GoodL.nil).rising fun y => ?_
  rw [res_find l [] GoodL.nil (by simp; omega) y, res_find l.reverse [] GoodL.nil (by simp; omega) y, List.reverse_reverse, find_turned h y]
theorem unlike_snoc {l : List OffS} {k : Nat} (hk : k < l.length) (h : Unlike (l.take k)) (hf : findO (l.take k) l[k] = none) : Unlike (l.take (k + 1)) := by
  rw [List.take_succ_eq_append_getElem hk]
  refine List.pairwise_append.2 ⟨h, List.pairwise_singleton _ _, fun a ha b hb => ?_⟩
  rw [List.mem_singleton] at hb
  subst hb
  have := List.find?_eq_none.1 hf a ha
  cases hs : sameK a l[k] with
  | false => rfl
  | true => exact absurd (sameK_comm hs) this
theorem fold_snoc {l : List OffS} {k : Nat} (hk : k < l.length) : (l.take (k + 1)).foldl setL [] = setL ((l.take k).foldl setL []) l[k] := by
  rw [List.take_succ_eq_append_getElem hk, List.foldl_append]
  rfl
theorem fold_turned {l : List OffS} {k : Nat} (hk : k < l.length) : (l.reverse.take (k + 1)).foldl setL [] = setL ((l.reverse.take k).foldl setL []) (l[l.length - 1 - k]'(by omega)) := by
  have hk' : k < l.reverse.length := by rw [List.length_reverse]; exact hk
  rw [fold_snoc hk', List.getElem_reverse]
end Go.Proofs.YtafdfmdcnniccaaGreat.ofs
