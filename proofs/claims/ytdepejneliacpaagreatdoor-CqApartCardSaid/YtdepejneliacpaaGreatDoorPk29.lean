/- CqApart: what is added to one queue doesn't change another one. The walk. -/
import Derived.Test.YtdepejneliacpaaGreatDoorRows
import Derived.WalkKit
import Derived.ProofKit
import Derived.OpenShut
import Derived.Handy
import Derived.Deep.LoopGhost
import Derived.Lib.Hide
import Derived.Lib.Strings
import Derived.SizedLaws
import Derived.Maps.Own
import Derived.Maps.OwnOps
import Derived.Maps.OwnSet
import Derived.Maps.RangeWalk
import Derived.Deep.QuietTactic
import Derived.BigQuiet
import Derived.Deep.RegionHeld3
import Derived.Lib.ConvBytes
import Derived.Lib.AppendZeros
import Derived.Lib.AppendZerosOnto
import Derived.Lib.LazyBuf
import Derived.Shelf.Abstract
import Derived.LaidEql
import Derived.Lib.SliceRun
import Derived.StillTailTactics
import Derived.Deep.Slices
import Derived.Lib.Atoi
import Derived.Lib.ItoaNum
import Derived.Lib.SlTrimSet
import Derived.Shelf.SlIter.Nil
import Derived.Ground.GgzProg
import Derived.Shelf.SortM.Plain
import Derived.Shelf.SortM.SortNone
import Derived.Ground.SlgmProg
import Derived.Shelf.SlicesE.DeleteFunc
import Derived.Ground.SlgfProg
import Derived.Test.YtdepejneliacpaaGreatDoorProg
import Derived.Shelf.Strings.Builder1
import Derived.Shelf.Strings.Builder2
import Derived.Shelf.Strings.Trim
import Derived.Shelf.Small.Utf8
import Derived.Shelf.Small.Bits
import Derived.Shelf.Small.Strs
import Derived.Shelf.Small.Wraps
import Derived.Shelf.Strings.BuilderF
import Derived.Shelf.Strings.BuilderK
import Derived.Shelf.Strings.Builder2Cap
import Derived.Shelf.Strconv.Atoi
import Derived.Shelf.Strconv.Itoa0
import Derived.Shelf.Strconv.Itoa1
import Derived.Shelf.LaysM
import Derived.Shelf.Strconv.Itoa2
import Derived.Shelf.Strconv.Itoa3
import Derived.Shelf.Strings.Search1
import Derived.Shelf.Sort.Plain
import Derived.Shelf.GgClosure.StringsIndexFunc
import Derived.Ground.GgwProg
import Derived.Shelf.GgClosure.StringsIndexFuncTop
import Derived.Shelf.GgClosure.StringsRunes
import Derived.Shelf.Strings.Prefix
import Derived.Shelf.Strings.Runes
import Derived.Shelf.Strings.AsciiSet
import Derived.Shelf.Bits.Mul64
import Derived.Shelf.Strings.Repeat
import Derived.Shelf.Unicode.DecodeSlow
import Derived.Shelf.Unicode.DecodeAny
import Derived.Shelf.Unicode.DecodeLast
import Derived.Shelf.Strings.BuilderCap
import Derived.Shelf.Slices.Equal
import Derived.Ground.Names2Prog
import Derived.Shelf.Slices.Clone
import Derived.Shelf.Slices.CompactS
import Derived.Shelf.Slices.SearchI
import Derived.Shelf.Slices.Cells
import Derived.Shelf.Slices.In.SortNone
import Derived.Shelf.Slices.Empties2
import Derived.Ground.SlgnProg
import Derived.Shelf.SlicesE.Equal
import Derived.Shelf.SlicesE.Compact
import Derived.Shelf.SlicesE.Clone
import Derived.Shelf.SlicesE.IndexFunc
import Derived.Shelf.Strings.SlTrimAscii
import Derived.Lib.Repeat
import Derived.Lib.LaidTab
import Derived.Deep.RegionLaw
import Derived.Deep.RegionWith
import Derived.Lib.AtoiErrMem
import Derived.Laws.MakeOwn
import Derived.Lib.Builder
import Derived.Lib.AppendStr
import Derived.Lib.DecodeN
import Derived.Maps.Keyed
import Derived.DeepKeys4
import Derived.Test.YtdepejneliacpaaGreatDoorTie
import Derived.Test.YtdepejneliacpaaGreatDoorCards
import Derived.LaidMore
import Derived.Lay
import Derived.SevenTiedAt
import Derived.HandedShaped
import Derived.Stop.Joined
import Derived.Shelf.Vars
import Derived.Stop.LaidErr
import Derived.Outline
import Derived.Test.YtdepejneliacpaaGreatDoorPk28
namespace Go.Proofs.YtdepejneliacpaaGreatDoor.capart
open Go.ChangeShapes Go.WideShapes Go.ChangeAt Go.RowKit Go.ChangeMaps
open Go.Proofs.YtdepejneliacpaaGreatDoor.dk Go.Proofs.YtdepejneliacpaaGreatDoor.sg Go.Proofs.YtdepejneliacpaaGreatDoor.cq

theorem array_shape {P : Program} {w : World} {r : Reach} {b : Nat} {t e : TypeId} {n : Nat} {v : Value} (ht : P.underlying t = some (.array n e)) (h : Value.okWide P w r b t v) : ∃ cs, v = .agg cs := by
  simp only [Value.okWide, ht] at h
  obtain ⟨cs, h1, _⟩ := h
  exact ⟨cs, h1⟩
theorem pair_arg {w : World} {v : Value} {k : IntKind} (hv : ∃ cs, v = .agg cs) (h : ∃ y, PairR k w v.cells.toList y) : ∃ y : Int × Int, v = .agg #[.int k y.1, .int k y.2] ∧ PairR k w v.cells.toList y := by
  obtain ⟨cs, rfl⟩ := hv
  obtain ⟨y, hy⟩ := h
  refine ⟨y, ?_, hy⟩
  have := hy.1
  simp only [Value.cells] at this
  rw [show cs = #[.int k y.1, .int k y.2] from Array.toList_inj.1 this]
abbrev bN : ByteArray := ⟨#[98]⟩
theorem right_b : rightC bN 2 = 0 := by kernel_rfl
def bL (j : Nat) : List P4 := (List.range j).map fun i => ⟨((1000 + i : Nat) : Int), 0, 0, 0⟩
theorem bL_length (j : Nat) : (bL j).length = j := by unfold bL; simp
theorem bL_succ (j : Nat) : bL (j + 1) = bL j ++ [⟨((1000 + j : Nat) : Int), 0, 0, 0⟩] := by unfold bL; rw [List.range_succ, List.map_append]; rfl
theorem bL_get {j i : Nat} (h : i < (bL j).length) : (bL j)[i] = ⟨((1000 + i : Nat) : Int), 0, 0, 0⟩ := by unfold bL; simp
def apQ (base : Nat) (la lb : List P4) : List QS := ⟨bN, 2, base, base, lb⟩ :: (if la = [] then [] else [⟨aN, 0, 0, 0, la⟩])
/-- What stands: so many in each. -/
structure Ap (W : World) (g p base i j : Nat) (w : World) : Prop where
  at_ : ∃ la, la.length = i ∧ Cq W g p 1048576 (i + j) (apQ base la (bL j)) w
section
variable {W w w' : World} {g p base i j : Nat}
theorem Ap.calm (h : Ap W g p base i j w) (hc : Calm w w') : Ap W g p base i j w' := by
  obtain ⟨la, h1, h2⟩ := h.at_
  exact ⟨la, h1, h2.calm hc⟩
theorem Ap.owns (h : Ap W g p base i j w) : Calm W w := by
  obtain ⟨la, h1, h2⟩ := h.at_
  exact h2.owns
theorem ne_ab : ¬ bN = aN := by decide
theorem apQ_a {la lb : List P4} {q1 q2 : List QS} {q : QS} (h : apQ base la lb = q1 ++ q :: q2) (hq : q.is aN 0) : la ≠ [] ∧ q1 = [⟨bN, 2, base, base, lb⟩] ∧ q = ⟨aN, 0, 0, 0, la⟩ ∧ q2 = [] := by
  unfold apQ at h
  cases q1 with
  | nil =>
    simp only [List.nil_append, List.cons.injEq] at h
    have := hq.1
    rw [← h.1] at this
    exact absurd this ne_ab
  | cons x q1 =>
    simp only [List.cons_append, List.cons.injEq] at h
    obtain ⟨h1, h2⟩ := h
    by_cases h0 : la = []
    · rw [if_pos h0] at h2
      exact absurd (congrArg List.length h2) (by simp)
    · rw [if_neg h0] at h2
      have hl := congrArg List.length h2
      simp at hl
      have e1 : q1 = [] := List.eq_nil_of_length_eq_zero (by omega)
      have e2 : q2 = [] := List.eq_nil_of_length_eq_zero (by omega)
      subst e1 e2
      simp at h2
      exact ⟨h0, by rw [← h1], h2.symm, rfl⟩
theorem apQ_b {la lb : List P4} {q1 q2 : List QS} {q : QS} (h : apQ base la lb = q1 ++ q :: q2) (hq : q.is bN 2) : q1 = [] ∧ q = ⟨bN, 2, base, base, lb⟩ ∧ q2 = (if la = [] then [] else [⟨aN, 0, 0, 0, la⟩]) := by
  unfold apQ at h
  cases q1 with
  | nil =>
    simp only [List.nil_append, List.cons.injEq] at h
    exact ⟨rfl, h.1.symm, h.2.symm⟩
  | cons x q1 =>
    simp only [List.cons_append, List.cons.injEq] at h
    obtain ⟨h1, h2⟩ := h
    exfalso
    have hm : q ∈ (if la = [] then [] else [(⟨aN, 0, 0, 0, la⟩ : QS)]) := by rw [h2]; exact List.mem_append_right _ (List.mem_cons_self ..)
    by_cases h0 : la = []
    · rw [if_pos h0] at hm; cases hm
    · rw [if_neg h0, List.mem_singleton] at hm
      have := hq.1
      rw [hm] at this
      exact absurd this.symm ne_ab
theorem Ap.addA (h : Ap W g p base i j w) (hi : i ≤ 100) (hj : j ≤ 100) :
    Calls Tryz.prog 15 #[ptrTo g, .string aN, .int .i64 0, .agg #[.int .i64 (i : Int), .int .i64 0, .int .i64 0, .int .i64 0]] w fun e w' => e = .returned (.tuple #[.int .i64 (i : Int), .int .i64 0]) ∧ Ap W g p base (i + 1) j w' := by
  obtain ⟨la, hl, hQ⟩ := h.at_
  have hok : P4.ok ⟨(i : Int), 0, 0, 0⟩ = true := by rw [P4.ok_iff]; simp only; omega
  refine (show Calls Tryz.prog _ _ w _ from hQ.add aN 0 ⟨(i : Int), 0, 0, 0⟩ (by decide) (by decide) (by simp only [List.mem_cons, List.not_mem_nil, or_false]; rintro x (rfl | rfl | rfl | rfl) <;> omega) (by omega) (by omega)).mono ?_
  rintro e w' ⟨_, ⟨h, _⟩ | ⟨_, h, _⟩ | ⟨_, _, q1, q, q2, h, hq, rfl, hQ'⟩ | ⟨_, _, hno, rfl, hQ'⟩⟩
  · exact absurd right_a h
  · rw [hok] at h; cases h
  · obtain ⟨h0, rfl, rfl, rfl⟩ := apQ_a h hq
    have e1 : QS.next ⟨aN, 0, 0, 0, la⟩ = i := by show 0 + la.length = i; omega
    refine ⟨by rw [e1], la ++ [⟨(i : Int), 0, 0, 0⟩], by simp [hl], ?_⟩
    have e2 : apQ base (la ++ [⟨(i : Int), 0, 0, 0⟩]) (bL j) = [⟨bN, 2, base, base, bL j⟩] ++ (⟨aN, 0, 0, 0, la⟩ : QS).add ⟨(i : Int), 0, 0, 0⟩ :: [] := by
      unfold apQ
      rw [if_neg (by simp)]; rfl
    rw [e2, show i + 1 + j = i + j + 1 by omega]
    exact hQ'
  · by_cases h0 : la = []
    · subst h0
      have hi0 : i = 0 := by rw [← hl]; rfl
      subst hi0
      refine ⟨rfl, [⟨((0 : Nat) : Int), 0, 0, 0⟩], rfl, ?_⟩
      have e2 : apQ base [⟨((0 : Nat) : Int), 0, 0, 0⟩] (bL j) = apQ base [] (bL j) ++ [(⟨aN, (0 : Int).toNat, 0, 0, []⟩ : QS).add ⟨((0 : Nat) : Int), 0, 0, 0⟩] := by
        unfold apQ
        rw [if_neg (by simp), if_pos rfl]; rfl
      rw [e2, show 0 + 1 + j = 0 + j + 1 by omega]
      exact hQ'
    · exfalso
      refine hno ⟨aN, 0, 0, 0, la⟩ ?_ ⟨rfl, rfl⟩
      unfold apQ
      rw [if_neg h0]
      simp
theorem Ap.addB (h : Ap W g p base i j w) (hi : i ≤ 100) (hj : j ≤ 100) :
    Calls Tryz.prog 15 #[ptrTo g, .string bN, .int .i64 2, .agg #[.int .i64 ((1000 + j : Nat) : Int), .int .i64 0, .int .i64 0, .int .i64 0]] w fun e w' => e = .returned (.tuple #[.int .i64 ((base + j : Nat) : Int), .int .i64 0]) ∧ Ap W g p base i (j + 1) w' := by
  obtain ⟨la, hl, hQ⟩ := h.at_
  have hok : P4.ok ⟨((1000 + j : Nat) : Int), 0, 0, 0⟩ = true := by rw [P4.ok_iff]; simp only; omega
  refine (show Calls Tryz.prog _ _ w _ from hQ.add bN 2 ⟨((1000 + j : Nat) : Int), 0, 0, 0⟩ (by decide) (by decide) (by simp only [List.mem_cons, List.not_mem_nil, or_false]; rintro x (rfl | rfl | rfl | rfl) <;> omega) (by omega) (by omega)).mono ?_
  rintro e w' ⟨_, ⟨h, _⟩ | ⟨_, h, _⟩ | ⟨_, _, q1, q, q2, h, hq, rfl, hQ'⟩ | ⟨_, _, hno, rfl, hQ'⟩⟩
  · exact absurd right_b h
  · rw [hok] at h; cases h
  · obtain ⟨rfl, rfl, rfl⟩ := apQ_b h hq
    have e1 : QS.next ⟨bN, 2, base, base, bL j⟩ = base + j := by show base + (bL j).length = _; rw [bL_length]
    refine ⟨by rw [e1], la, hl, ?_⟩
    have e2 : apQ base la (bL (j + 1)) = [] ++ (⟨bN, 2, base, base, bL j⟩ : QS).add ⟨((1000 + j : Nat) : Int), 0, 0, 0⟩ :: (if la = [] then [] else [⟨aN, 0, 0, 0, la⟩]) := by
      unfold apQ
      rw [bL_succ]; rfl
    rw [e2, show i + (j + 1) = i + j + 1 by omega]
    exact hQ'
  · exact absurd ⟨rfl, rfl⟩ (hno ⟨bN, 2, base, base, bL j⟩ (List.mem_cons_self ..))
theorem Ap.atB (h : Ap W g p base i j w) {x : Nat} (hx : x < j) :
    Calls Tryz.prog 17 #[ptrTo g, .string bN, .int .i64 2, .int .i64 ((base + x : Nat) : Int)] w fun e w' => e = .returned (.tuple #[.agg #[.int .i64 ((1000 + x : Nat) : Int), .int .i64 0, .int .i64 0, .int .i64 0], .int .i64 0]) ∧ Calm w w' := by
  obtain ⟨la, hl, hQ⟩ := h.at_
  have hQ2 : Cq W g p 1048576 (i + j) ([] ++ (⟨bN, 2, base, base, bL j⟩ : QS) :: (if la = [] then [] else [⟨aN, 0, 0, 0, la⟩])) w := hQ
  refine (hQ2.at (t := bN) (j := 2) ⟨rfl, rfl⟩ (by decide) (by decide) ((base + x : Nat) : Int)).mono ?_
  rintro e w' ⟨⟨_, h1, _⟩ | ⟨h1, _⟩ | ⟨y, hy, h1, _, rfl⟩, hc⟩
  · exfalso
    have h2 : ((base + x : Nat) : Int) < (base : Int) := h1
    omega
  · exfalso
    rcases h1 with h1 | h1
    · omega
    · have h2 : ((base + (bL j).length : Nat) : Int) ≤ ((base + x : Nat) : Int) := h1
      rw [bL_length] at h2
      omega
  · have h2 : ((base + x : Nat) : Int) = ((base + y : Nat) : Int) := h1
    have hxy : y = x := by omega
    subst hxy
    refine ⟨?_, hc⟩
    have h3 : (⟨bN, 2, base, base, bL j⟩ : QS).l[y] = ⟨((1000 + y : Nat) : Int), 0, 0, 0⟩ := bL_get _
    rw [h3]
    rfl
theorem Ap.nextB (h : Ap W g p base i j w) : Calls Tryz.prog 19 #[ptrTo g, .string bN, .int .i64 2] w fun e w' => e = .returned (.int .i64 ((base + j : Nat) : Int)) ∧ Calm w w' := by
  obtain ⟨la, hl, hQ⟩ := h.at_
  have hQ2 : Cq W g p 1048576 (i + j) ([] ++ (⟨bN, 2, base, base, bL j⟩ : QS) :: (if la = [] then [] else [⟨aN, 0, 0, 0, la⟩])) w := hQ
  have := hQ2.next (t := bN) (j := 2) ⟨rfl, rfl⟩ (by decide) (by decide)
  rw [show QS.next ⟨bN, 2, base, base, bL j⟩ = base + j from by show base + (bL j).length = _; rw [bL_length]] at this
  exact this
theorem Ap.leastB (h : Ap W g p base i j w) : Calls Tryz.prog 20 #[ptrTo g, .string bN, .int .i64 2] w fun e w' => e = .returned (.int .i64 (base : Int)) ∧ Calm w w' := by
  obtain ⟨la, hl, hQ⟩ := h.at_
  have hQ2 : Cq W g p 1048576 (i + j) ([] ++ (⟨bN, 2, base, base, bL j⟩ : QS) :: (if la = [] then [] else [⟨aN, 0, 0, 0, la⟩])) w := hQ
  exact hQ2.least (t := bN) (j := 2) ⟨rfl, rfl⟩ (by decide) (by decide)
theorem next_none {c k : Nat} {qs : List QS} {t : ByteArray} {y : Int} (h : Cq W g p c k qs w) (hno : ∀ q ∈ qs, ¬ q.is t y) (ht : t.size ≤ 100) (hwf : (Lit.int .i64 y).wf = true) :
    Calls Tryz.prog 19 #[ptrTo g, .string t, .int .i64 y] w fun e w' => e = .returned (.int .i64 0) ∧ Calm w w' := by
  obtain ⟨mb, n, m, D, F, es, h1, h2, _⟩ := h.at_
  have ho := box (of_none h1 (fun e he => hno e.q (by rw [← h2]; exact List.mem_map_of_mem he)) (by unfold maxLen; omega) hwf)
  clear h h1 h2 hno ht hwf
  go_enter Tryz.func19, Tryz.ntmps19
  go_wp2_with fail
  refine ho.out.mono ?_
  rintro e' w1 ⟨x, rfl, hx, hc1⟩
  have Hx := box hx
  have Hc := box hc1
  clear hx hc1 ho
  go_wp2_with fail
  refine (next_no x _ Hx.out).mono ?_
  rintro e' w2 ⟨rfl, d, rfl⟩
  go_wp2_with fail
  go_ret
  exact ⟨rfl, Hc.out.drewN d⟩
theorem Ap.nextA (h : Ap W g p base i j w) : Calls Tryz.prog 19 #[ptrTo g, .string aN, .int .i64 0] w fun e w' => e = .returned (.int .i64 (i : Int)) ∧ Calm w w' := by
  obtain ⟨la, hl, hQ⟩ := h.at_
  by_cases h0 : la = []
  · subst h0
    have hi0 : i = 0 := by rw [← hl]; rfl
    subst hi0
    refine next_none hQ (fun q hq hx => ?_) (by decide) (by decide)
    unfold apQ at hq
    rw [if_pos rfl, List.mem_singleton] at hq
    have := hx.1
    rw [hq] at this
    exact absurd this ne_ab
  · have hQ2 : Cq W g p 1048576 (i + j) ([⟨bN, 2, base, base, bL j⟩] ++ (⟨aN, 0, 0, 0, la⟩ : QS) :: []) w := by
      have := hQ
      unfold apQ at this
      rw [if_neg h0] at this
      exact this
    have := hQ2.next (t := aN) (j := 0) ⟨rfl, rfl⟩ (by decide) (by decide)
    rw [show QS.next ⟨aN, 0, 0, 0, la⟩ = i from by show 0 + la.length = _; omega] at this
    exact this
end
set_option maxRecDepth 100000 in
set_option maxHeartbeats 16000000 in
theorem walk (W : World) (ht : Tab W) (y : Int × Int) (ry : PairR .u8 W (Value.cells (.agg #[.int .u8 y.1, .int .u8 y.2])).toList y) (b : Int) (wb : (Lit.int .i64 b).wf = true) :
    Calls Tryz.prog 4 #[.agg #[.int .u8 y.1, .int .u8 y.2], .int .i64 b] W fun e W' => e = .returned (.bool true) ∧ Calm W W' := by
  obtain ⟨x0, x1⟩ := y
  obtain ⟨_, ⟨z1, z2⟩, z3, z4⟩ := ry
  simp [IntKind.min, IntKind.max, IntKind.bits, IntKind.signed] at z1 z2 z3 z4
  obtain ⟨x0, rfl⟩ : ∃ q : Nat, x0 = q := ⟨x0.toNat, by omega⟩
  obtain ⟨x1, rfl⟩ : ∃ q : Nat, x1 = q := ⟨x1.toNat, by omega⟩
  have HT := box ht
  obtain ⟨wa, hwa⟩ : ∃ wa, W.alloc (.cells #[.int .u8 (x0 : Int), .int .u8 (x1 : Int)] 38) = wa := ⟨_, rfl⟩
  have hca : Calm W wa := by rw [← hwa]; exact (Calm.refl W).alloc _
  have Hpa := box (show wa.heap[W.heap.size]? = some (.cells #[.int .u8 (x0 : Int), .int .u8 (x1 : Int)] 38 (0, 0)) from by rw [← hwa]; exact heap_new W _)
  have Hca := box hca
  have haw := box (awake_any wa (tab_calm ht hca))
  clear ht wb hca
  go_enter Tryz.func4, Tryz.ntmps4
  go_wp2_with fail
  (try rw [hwa])
  refine haw.out.mono ?_
  rintro e w1 ⟨rfl, hc1⟩
  have O1 := box (Hca.out.trans hc1)
  have Hp1 := box (heap_calm hc1 Hpa.out)
  clear hc1 haw
  go_wp2_with fail
  refine (New_ok _ 1048576).mono ?_
  rintro e w2 ⟨p, F2, rfl, hd2, hc2, hF2⟩
  have hnew := box (new_new (c := 1048576) hd2 HT.out (O1.out.trans hc2) (fun b hb => Nat.le_trans O1.out.size (hF2 b hb)) (by decide))
  have Hp2 := box (heap_calm hc2 Hp1.out)
  clear hd2 hc2 hF2
  go_wp2_with fail
  refine hnew.out.mono ?_
  rintro e w3 ⟨g, rfl, hQ3, hk3⟩
  have HQ3 := box hQ3
  have Hp3 := box (hk3 _ (by unfold OthQ; decide) (by decide) _ _ Hp2.out)
  clear hQ3 hnew O1 hk3
  by_cases hb1 : b < 0
  · have t1 : decide (b < 0) = true := decide_eq_true hb1
    go_wp2_with fail
    go_ret
    exact ⟨rfl, HQ3.out.owns⟩
  have t1 : decide (b < 0) = false := decide_eq_false hb1
  by_cases hb2 : 1099511627776 < b
  · have t2 : decide (1099511627776 < b) = true := decide_eq_true hb2
    go_wp2_with fail
    go_ret
    exact ⟨rfl, HQ3.out.owns⟩
  have t2 : decide (1099511627776 < b) = false := decide_eq_false hb2
  obtain ⟨base, rfl⟩ : ∃ q : Nat, b = q := ⟨b.toNat, by omega⟩
  have hbase := box (HQ3.out.base bN 2 (base : Int) (by decide) (by decide) (by decide))
  have hbb : base ≤ 1099511627776 := by omega
  clear hb1 hb2
  go_wp2_with fail
  refine hbase.out.mono ?_
  rintro e w4 ⟨hk4, ⟨h, _⟩ | ⟨_, h, _⟩ | ⟨_, _, _, ⟨q, hq, _⟩, _⟩ | ⟨_, _, _, _, rfl, hQ4⟩⟩
  · exact absurd right_b h
  · omega
  · cases hq
  have HS := box (show Ap W g p base 0 0 w4 from ⟨[], rfl, hQ4⟩)
  have Hp4 := box (hk4 _ (by unfold OthQ; decide) (by decide) _ _ Hp3.out)
  clear hk4 hQ4 hbase
  have p0 := cell_of Hp4.out 0
  have p1 := cell_of Hp4.out 1
  have plt := heap_lt Hp4.out
  obtain ⟨n, hn⟩ : ∃ n, x0 % 60 = n := ⟨_, rfl⟩
  obtain ⟨m, hm⟩ : ∃ m, x1 % 60 = m := ⟨_, rfl⟩
  have hn60 : n < 60 := by omega
  have hm60 : m < 60 := by omega
  have r0 : (x0 : Int).tmod 60 = (n : Int) := by rw [← hn]; rfl
  have r1 : (x1 : Int).tmod 60 = (m : Int) := by rw [← hm]; rfl
  have r2 : (x0 : Int) % 60 = (n : Int) := by rw [← hn]; rfl
  have r3 : (x1 : Int) % 60 = (m : Int) := by rw [← hm]; rfl
  clear hn hm
  go_wp2_with (first | go_quiet (fail) | fail)
  obtain ⟨w5, hw5⟩ : ∃ w5, w4.drewN nq = w5 := ⟨_, rfl⟩
  have HS5 := box (show Ap W g p base 0 0 w5 from by rw [← hw5]; exact HS.out.calm ((Calm.refl w4).drewN nq))
  (try rw [hw5])
  clear hw5 HS p0 p1 plt Hp4 r0 r1 r2 r3
  obtain ⟨mx, hmx⟩ : ∃ mx, max n m = mx := ⟨_, rfl⟩
  have hmxI : max (n : Int) (m : Int) = (mx : Int) := by omega
  have Hmx := box hmx
  clear hmx
  go_wp2_with fail
  go_loopw [9] (fun iv wr => ∃ i : Nat, iv = .int .i64 (i : Int) ∧ i ≤ mx ∧ Box (Ap W g p base (min i n) (min i m) wr)) (fun iv _ => mx - (intOf iv).toNat)
  case atStart => exact ⟨0, rfl, Nat.zero_le _, by rw [Nat.zero_min, Nat.zero_min]; exact HS5⟩
  case round =>
    clear HS5
    obtain ⟨i, rfl, hi, HS⟩ := hrel
    obtain ⟨wo, hwo⟩ : ∃ wo : World, wo = wr := ⟨_, rfl⟩
    subst hwo
    by_cases hlt : i < mx
    · have t3 : decide (i < mx) = true := decide_eq_true hlt
      have t3b : decide ((i : Int) < (mx : Int)) = true := decide_eq_true (by omega)
      by_cases ha : i < n
      · have ta : decide (i < n) = true := decide_eq_true ha
        have eA : min (i + 1) n = i + 1 := by omega
        have eA0 : min i n = i := by omega
        have hA := HS.out
        rw [eA0] at hA
        have hA := box (hA.addA (by omega) (by omega))
        go_wp2_with fail
        refine hA.out.mono ?_
        rintro e w7 ⟨rfl, hS7⟩
        have HS7 := box hS7
        clear hS7 hA HS
        by_cases hb : i < m
        · have tb : decide (i < m) = true := decide_eq_true hb
          have eB : min (i + 1) m = i + 1 := by omega
          have eB0 : min i m = i := by omega
          have hB := HS7.out
          rw [eB0] at hB
          have hB := box (hB.addB (by omega) (by omega))
          go_wp2_with fail
          refine hB.out.mono ?_
          rintro e w8 ⟨rfl, hS8⟩
          have HS8 := box hS8
          clear hS8 hB
          go_wp2_with fail
          go_roundw
          case rel => exact ⟨i + 1, by go_num, by omega, by rw [eA, eB]; exact HS8⟩
          case measure => simp [intOf]; omega
        · have tb : decide (i < m) = false := decide_eq_false hb
          have eB : min (i + 1) m = min i m := by omega
          go_wp2_with fail
          go_roundw
          case rel => exact ⟨i + 1, by go_num, by omega, by rw [eA, eB]; exact HS7⟩
          case measure => simp [intOf]; omega
      · have ta : decide (i < n) = false := decide_eq_false ha
        have eA : min (i + 1) n = min i n := by omega
        by_cases hb : i < m
        · have tb : decide (i < m) = true := decide_eq_true hb
          have eB : min (i + 1) m = i + 1 := by omega
          have eB0 : min i m = i := by omega
          have hB := HS.out
          rw [eB0] at hB
          have hB := box (hB.addB (by omega) (by omega))
          go_wp2_with fail
          refine hB.out.mono ?_
          rintro e w8 ⟨rfl, hS8⟩
          have HS8 := box hS8
          clear hS8 hB
          go_wp2_with fail
          go_roundw
          case rel => exact ⟨i + 1, by go_num, by omega, by rw [eA, eB]; exact HS8⟩
          case measure => simp [intOf]; omega
        · have tb : decide (i < m) = false := decide_eq_false hb
          have eB : min (i + 1) m = min i m := by omega
          go_wp2_with fail
          go_roundw
          case rel => exact ⟨i + 1, by go_num, by omega, by rw [eA, eB]; exact HS⟩
          case measure => simp [intOf]; omega
    · have t3 : decide (i < mx) = false := decide_eq_false hlt
      have t3b : decide ((i : Int) < (mx : Int)) = false := decide_eq_false (by omega)
      have hS6 := HS.out
      have hmx2 := Hmx.out
      rw [show min i n = n by omega, show min i m = m by omega] at hS6
      have HS6 := box hS6
      clear hS6 HS hmx2
      go_wp2_with fail
      go_loopw [14] (fun jv wr => ∃ j : Nat, jv = .int .i64 (j : Int) ∧ j ≤ m ∧ Box (Ap W g p base n m wr)) (fun jv _ => m - (intOf jv).toNat)
      case atStart => exact ⟨0, rfl, Nat.zero_le _, HS6⟩
      case round =>
        clear HS6
        obtain ⟨j, rfl, hj, HS⟩ := hrel
        obtain ⟨wi, hwi⟩ : ∃ wi : World, wi = wr := ⟨_, rfl⟩
        subst hwi
        by_cases hjm : j < m
        · have t4 : decide (j < m) = true := decide_eq_true hjm
          have hat := box (HS.out.atB hjm)
          have k1 : IntKind.i64.wrap ((base : Int) + (j : Int)) = (base : Int) + (j : Int) := IntWalk.i64_in _ (by omega)
          go_wp2_with fail
          refine hat.out.mono ?_
          rintro e w9 ⟨rfl, hc9⟩
          have HS9 := box ((HS.out.calm hc9).calm ((Calm.refl w9).alloc (.cells #[.int .i64 ((1000 + j : Nat) : Int), .int .i64 0, .int .i64 0, .int .i64 0] 33)))
          clear hc9 hat
          go_wp2_with fail
          go_roundw
          case rel => exact ⟨j + 1, by go_num, by omega, HS9⟩
          case measure => simp [intOf]; omega
        · have t4 : decide (j < m) = false := decide_eq_false hjm
          have k1 : IntKind.i64.wrap ((base : Int) + (m : Int)) = (base : Int) + (m : Int) := IntWalk.i64_in _ (by omega)
          have hA := box (HS.out.nextA)
          go_wp2_with fail
          refine hA.out.mono ?_
          rintro e w9 ⟨rfl, hc9⟩
          have HS9 := box (HS.out.calm hc9)
          have hB := box (HS9.out.nextB)
          clear hc9 hA
          go_wp2_with fail
          refine hB.out.mono ?_
          rintro e w10 ⟨rfl, hc10⟩
          have HS10 := box (HS9.out.calm hc10)
          have hC := box (HS10.out.leastB)
          clear hc10 hB
          go_wp2_with fail
          refine hC.out.mono ?_
          rintro e w11 ⟨rfl, hc11⟩
          have HS11 := box (HS10.out.calm hc11)
          clear hc11 hC
          go_wp2_with fail
          go_ret
          exact ⟨rfl, HS11.out.owns⟩
end Go.Proofs.YtdepejneliacpaaGreatDoor.capart
