/- CqSeeks: later times are found at no earlier positions. The card is tied. No condition. -/
import Derived.Test.YtdepejneliacpaaGreatDoorRows
import Derived.WalkKit
import Derived.ProofKit
import Derived.OpenShut
import Derived.Handy
import Derived.Deep.LoopGhost
import Derived.Lib.Hide
import Derived.Lib.Strings
import Derived.SizedLaws
import Derived.Maps.Own
import Derived.Maps.OwnOps
import Derived.Maps.OwnSet
import Derived.Maps.RangeWalk
import Derived.Deep.QuietTactic
import Derived.BigQuiet
import Derived.Deep.RegionHeld3
import Derived.Lib.ConvBytes
import Derived.Lib.AppendZeros
import Derived.Lib.AppendZerosOnto
import Derived.Lib.LazyBuf
import Derived.Shelf.Abstract
import Derived.LaidEql
import Derived.Lib.SliceRun
import Derived.StillTailTactics
import Derived.Deep.Slices
import Derived.Lib.Atoi
import Derived.Lib.ItoaNum
import Derived.Lib.SlTrimSet
import Derived.Shelf.SlIter.Nil
import Derived.Ground.GgzProg
import Derived.Shelf.SortM.Plain
import Derived.Shelf.SortM.SortNone
import Derived.Ground.SlgmProg
import Derived.Shelf.SlicesE.DeleteFunc
import Derived.Ground.SlgfProg
import Derived.Test.YtdepejneliacpaaGreatDoorProg
import Derived.Shelf.Strings.Builder1
import Derived.Shelf.Strings.Builder2
import Derived.Shelf.Strings.Trim
import Derived.Shelf.Small.Utf8
import Derived.Shelf.Small.Bits
import Derived.Shelf.Small.Strs
import Derived.Shelf.Small.Wraps
import Derived.Shelf.Strings.BuilderF
import Derived.Shelf.Strings.BuilderK
import Derived.Shelf.Strings.Builder2Cap
import Derived.Shelf.Strconv.Atoi
import Derived.Shelf.Strconv.Itoa0
import Derived.Shelf.Strconv.Itoa1
import Derived.Shelf.LaysM
import Derived.Shelf.Strconv.Itoa2
import Derived.Shelf.Strconv.Itoa3
import Derived.Shelf.Strings.Search1
import Derived.Shelf.Sort.Plain
import Derived.Shelf.GgClosure.StringsIndexFunc
import Derived.Ground.GgwProg
import Derived.Shelf.GgClosure.StringsIndexFuncTop
import Derived.Shelf.GgClosure.StringsRunes
import Derived.Shelf.Strings.Prefix
import Derived.Shelf.Strings.Runes
import Derived.Shelf.Strings.AsciiSet
import Derived.Shelf.Bits.Mul64
import Derived.Shelf.Strings.Repeat
import Derived.Shelf.Unicode.DecodeSlow
import Derived.Shelf.Unicode.DecodeAny
import Derived.Shelf.Unicode.DecodeLast
import Derived.Shelf.Strings.BuilderCap
import Derived.Shelf.Slices.Equal
import Derived.Ground.Names2Prog
import Derived.Shelf.Slices.Clone
import Derived.Shelf.Slices.CompactS
import Derived.Shelf.Slices.SearchI
import Derived.Shelf.Slices.Cells
import Derived.Shelf.Slices.In.SortNone
import Derived.Shelf.Slices.Empties2
import Derived.Ground.SlgnProg
import Derived.Shelf.SlicesE.Equal
import Derived.Shelf.SlicesE.Compact
import Derived.Shelf.SlicesE.Clone
import Derived.Shelf.SlicesE.IndexFunc
import Derived.Shelf.Strings.SlTrimAscii
import Derived.Lib.Repeat
import Derived.Lib.LaidTab
import Derived.Deep.RegionLaw
import Derived.Deep.RegionWith
import Derived.Lib.AtoiErrMem
import Derived.Laws.MakeOwn
import Derived.Lib.Builder
import Derived.Lib.AppendStr
import Derived.Lib.DecodeN
import Derived.Maps.Keyed
import Derived.DeepKeys4
import Derived.Test.YtdepejneliacpaaGreatDoorTie
import Derived.Test.YtdepejneliacpaaGreatDoorCards
import Derived.LaidMore
import Derived.Lay
import Derived.SevenTiedAt
import Derived.HandedShaped
import Derived.Stop.Joined
import Derived.Shelf.Vars
import Derived.Stop.LaidErr
import Derived.Test.YtdepejneliacpaaGreatDoorPk28
namespace Go.Proofs.YtdepejneliacpaaGreatDoor.cseeks
open Go.ChangeShapes Go.WideShapes Go.ChangeAt Go.RowKit Go.ChangeMaps
open Go.Proofs.YtdepejneliacpaaGreatDoor.dk Go.Proofs.YtdepejneliacpaaGreatDoor.sg Go.Proofs.YtdepejneliacpaaGreatDoor.cq

theorem tw_mono {α : Type} {f g : α → Bool} (h : ∀ x, f x = true → g x = true) : ∀ l : List α, (l.takeWhile f).length ≤ (l.takeWhile g).length
  | [] => Nat.le_refl _
  | x :: l => by
    cases hf : f x with
    | false => rw [List.takeWhile_cons, hf]; exact Nat.zero_le _
    | true =>
      rw [List.takeWhile_cons, hf, List.takeWhile_cons, h x hf]
      simp only [if_true, List.length_cons]
      have := tw_mono h l
      omega
theorem far_mono {q : QS} {f g : P4 → Bool} (h : ∀ x, f x = true → g x = true) : q.far f ≤ q.far g := by
  unfold QS.far
  have := tw_mono h (q.l.drop (q.least - q.base))
  omega
/-- What stands behind the first so many: no queue, or one of so many entries. -/
structure Sk (W : World) (g p k : Nat) (w : World) : Prop where
  at_ : ∃ l, l.length = k ∧ Cq W g p 1048576 k (if l = [] then [] else [⟨aN, 0, 0, 0, l⟩]) w
theorem far_aN_eq (l : List P4) (f : P4 → Bool) : (⟨aN, 0, 0, 0, l⟩ : QS).far f = (l.takeWhile f).length := by
  unfold QS.far
  show 0 + ((l.drop (0 - 0)).takeWhile f).length = _
  rw [Nat.zero_add]; rfl
theorem far_aN (l : List P4) (f : P4 → Bool) : (⟨aN, 0, 0, 0, l⟩ : QS).far f ≤ l.length := by
  rw [far_aN_eq]; exact tw_le f l
theorem Sk.add {W w : World} {g p k : Nat} (h : Sk W g p k w) (hk : k ≤ 1000) (i d : Nat) (hi : i ≤ 1000) (hd : d ≤ 1000000) :
    Calls Tryz.prog 15 #[ptrTo g, .string aN, .int .i64 0, .agg #[.int .i64 (i : Int), .int .i64 0, .int .i64 0, .int .i64 (d : Int)]] w fun e w' => ∃ z : Int, e = .returned (.tuple #[.int .i64 z, .int .i64 0]) ∧ Sk W g p (k + 1) w' := by
  obtain ⟨l, hl, hQ⟩ := h.at_
  have hok : P4.ok ⟨(i : Int), 0, 0, (d : Int)⟩ = true := by rw [P4.ok_iff]; simp only; omega
  refine (show Calls Tryz.prog _ _ w _ from hQ.add aN 0 ⟨(i : Int), 0, 0, (d : Int)⟩ (by decide) (by decide) (by simp only [List.mem_cons, List.not_mem_nil, or_false]; rintro x (rfl | rfl | rfl | rfl) <;> omega) (by omega) (by omega)).mono ?_
  rintro e w' ⟨_, ⟨h, _⟩ | ⟨_, h, _⟩ | ⟨_, _, q1, q, q2, h, _, rfl, hQ'⟩ | ⟨_, _, hno, rfl, hQ'⟩⟩
  · exact absurd right_a h
  · rw [hok] at h; cases h
  · by_cases h0 : l = []
    · rw [if_pos h0] at h
      exact absurd (congrArg List.length h) (by simp)
    · rw [if_neg h0] at h
      have hq := congrArg List.length h
      simp at hq
      have e1 : q1 = [] := List.eq_nil_of_length_eq_zero (by omega)
      have e2 : q2 = [] := List.eq_nil_of_length_eq_zero (by omega)
      subst e1 e2
      simp at h
      subst h
      refine ⟨_, rfl, l ++ [⟨(i : Int), 0, 0, (d : Int)⟩], by simp [hl], ?_⟩
      rw [if_neg (by simp)]
      exact hQ'
  · by_cases h0 : l = []
    · rw [if_pos h0] at hQ'
      subst h0
      refine ⟨0, rfl, [⟨(i : Int), 0, 0, (d : Int)⟩], by rw [← hl]; rfl, ?_⟩
      rw [if_neg (by simp)]
      exact hQ'
    · rw [if_neg h0] at hno
      exact absurd (show QS.is (⟨aN, 0, 0, 0, l⟩ : QS) aN 0 from ⟨rfl, rfl⟩) (hno _ (by simp))
/-- Where a time is found. -/
def seekN (l : List P4) (born : Int) : Nat := (⟨aN, 0, 0, 0, l⟩ : QS).far fun p => decide (p.d < born)
theorem Cq.seekL {W w : World} {g p k : Nat} {l : List P4} (h : Cq W g p 1048576 k (if l = [] then [] else [⟨aN, 0, 0, 0, l⟩]) w) (born : Int) :
    Calls Tryz.prog 16 #[ptrTo g, .string aN, .int .i64 0, .int .i64 born] w fun e w' => e = .returned (.int .i64 (seekN l born : Int)) ∧ Calm w w' := by
  by_cases h0 : l = []
  · rw [if_pos h0] at h
    subst h0
    exact seek_none h (fun q hq => by cases hq) (by decide) (by decide) born
  · rw [if_neg h0] at h
    exact Cq.seek (q1 := []) (q2 := []) (t := aN) (j := 0) h ⟨rfl, rfl⟩ (by decide) (by decide) born
theorem seekN_at {l : List P4} {born : Int} (h : seekN l born < l.length) : born ≤ (l[seekN l born]).d := by
  have h2 : ∀ (L : List P4) (hL : (L.takeWhile fun p => decide (p.d < born)).length < L.length), born ≤ (L[(L.takeWhile fun p => decide (p.d < born)).length]).d := by
    intro L
    induction L with
    | nil => intro hL; cases hL
    | cons x L ih =>
      intro hL
      by_cases hx : x.d < born
      · have e : ((x :: L).takeWhile fun p => decide (p.d < born)) = x :: (L.takeWhile fun p => decide (p.d < born)) := by rw [List.takeWhile_cons, if_pos (decide_eq_true hx)]
        simp only [e, List.length_cons, List.getElem_cons_succ] at hL ⊢
        exact ih (by omega)
      · have e : ((x :: L).takeWhile fun p => decide (p.d < born)) = [] := by rw [List.takeWhile_cons, if_neg (by simpa using hx)]
        simp only [e, List.length_nil, List.getElem_cons_zero]
        omega
  have e : seekN l born = (l.takeWhile fun p => decide (p.d < born)).length := by
    unfold seekN QS.far
    show 0 + ((l.drop (0 - 0)).takeWhile _).length = _
    rw [Nat.zero_add]; rfl
  simp only [e] at h ⊢
  exact h2 l h
set_option maxRecDepth 100000 in
set_option maxHeartbeats 8000000 in
theorem walk (W : World) (ht : Tab W) (v0 : Value) (l : List Int) (r0 : RowsAt (IntR .u8) 1 W v0 l) (a : Int) (wa : (Lit.int .i64 a).wf = true) (b : Int) (wb : (Lit.int .i64 b).wf = true) :
    Calls Tryz.prog 3 #[v0, .int .i64 a, .int .i64 b] W fun e W' => e = .returned (.bool true) ∧ Calm W W' := by
  obtain ⟨la, lcap, rfl, hll, hle⟩ := r0.nums
  have Hle := box hle
  have HT := box ht
  have haw := box (awake_any W ht)
  unfold maxLen at hll
  clear ht r0 hle wa wb
  go_enter Tryz.func3, Tryz.ntmps3
  go_wp2_with fail
  refine haw.out.mono ?_
  rintro e w1 ⟨rfl, hca⟩
  have O1 := box hca
  clear hca haw
  by_cases h60 : 60 < l.length
  · have t1 : decide ((60 : Int) < (l.length : Int)) = true := decide_eq_true (by omega)
    go_wp2_with fail
    go_ret
    exact ⟨rfl, O1.out⟩
  have t1 : decide ((60 : Int) < (l.length : Int)) = false := decide_eq_false (by omega)
  have hl60 : l.length ≤ 60 := by omega
  clear h60
  go_wp2_with fail
  refine (New_ok _ 1048576).mono ?_
  rintro e w2 ⟨p, F2, rfl, hd2, hc2, hF2⟩
  have hnew := box (new_new (c := 1048576) hd2 HT.out (O1.out.trans hc2) (fun b hb => Nat.le_trans O1.out.size (hF2 b hb)) (by decide))
  clear hd2 hc2 hF2
  go_wp2_with fail
  refine hnew.out.mono ?_
  rintro e w3 ⟨g, rfl, hQ3, _⟩
  have HS := box (show Sk W g p 0 w3 from ⟨[], rfl, by rw [if_pos rfl]; exact hQ3⟩)
  clear hQ3 hnew O1
  go_wp2_with fail
  go_loopw [9, 32] (fun nv iv wr => ∃ k d : Nat, k ≤ l.length ∧ d ≤ 255 * k ∧ nv = .int .i64 (d : Int) ∧ iv = .int .i64 (k : Int) ∧ Box (Sk W g p k wr)) (fun _ iv _ => l.length - (intOf iv).toNat)
  case atStart => exact ⟨0, 0, Nat.zero_le _, Nat.zero_le _, rfl, rfl, HS⟩
  case round =>
    clear HS
    obtain ⟨k, d, hk, hd, rfl, rfl, HS⟩ := hrel
    obtain ⟨wo, hwo⟩ : ∃ wo : World, wo = wr := ⟨_, rfl⟩
    subst hwo
    by_cases hlt : k < l.length
    · obtain ⟨lb, loff, rfl, hlb, hc0, hz1, hz2⟩ := Hle.out k hlt
      have hcw : Calm W wo := by obtain ⟨l, _, hQ⟩ := HS.out.at_; exact hQ.owns
      have d0 := (hcw.cell (p := ⟨lb, loff + k, none⟩) hlb).trans hc0
      have hlbo := Nat.lt_of_lt_of_le hlb hcw.size
      obtain ⟨z, hz, hz256⟩ : ∃ z : Nat, l[k] = (z : Int) ∧ z < 256 := by
        simp [IntKind.min, IntKind.max, IntKind.bits, IntKind.signed] at hz1 hz2
        exact ⟨l[k].toNat, by omega, by omega⟩
      rw [hz] at d0
      have hadd := box (HS.out.add (by omega) k (d + z) (by omega) (by omega))
      have k1 : IntKind.i64.wrap ((d : Int) + (z : Int)) = (d : Int) + (z : Int) := IntWalk.i64_in _ (by omega)
      clear hc0 hz1 hz2 hz hcw
      go_wp2_with fail
      refine hadd.out.mono ?_
      rintro e w4 ⟨at4, rfl, hS4⟩
      have HS4 := box hS4
      clear hS4 hadd d0
      go_wp2_with fail
      go_roundw
      case rel => exact ⟨k + 1, d + z, by omega, by omega, by go_num, by go_num, HS4⟩
      case measure => simp [intOf]; omega
    · obtain rfl : k = l.length := by omega
      obtain ⟨E, hE, hQ⟩ := HS.out.at_
      have HQ := box hQ
      have hmin := box (Cq.seekL hQ (min a b))
      obtain ⟨x, hx⟩ : ∃ x, seekN E (min a b) = x := ⟨_, rfl⟩
      obtain ⟨y, hy⟩ : ∃ y, seekN E (max a b) = y := ⟨_, rfl⟩
      have hxy : x ≤ y := by
        rw [← hx, ← hy]
        exact far_mono (fun p hp => by
          have := of_decide_eq_true hp
          exact decide_eq_true (by omega))
      have hyl : y ≤ l.length := by rw [← hy, ← hE]; exact far_aN E _
      rw [hx] at hmin
      have Hy := box hy
      clear hQ hx hy
      go_wp2_with fail
      refine hmin.out.mono ?_
      rintro e w5 ⟨rfl, hc5⟩
      have HQ5 := box (HQ.out.calm hc5)
      have hmax := box (Cq.seekL HQ5.out (max a b))
      rw [Hy.out] at hmax
      clear hc5 hmin
      go_wp2_with fail
      refine hmax.out.mono ?_
      rintro e w6 ⟨rfl, hc6⟩
      have HQ6 := box (HQ5.out.calm hc6)
      clear hc6 hmax
      have t2 : decide (y < x) = false := decide_eq_false (by omega)
      have t3 : decide (l.length < y) = false := decide_eq_false (by omega)
      by_cases hyy : y < l.length
      · have t4 : decide (y < l.length) = true := decide_eq_true hyy
        have h0 : E ≠ [] := fun e => by rw [e] at hE; simp at hE; omega
        have hat := HQ6.out
        rw [if_neg h0] at hat
        have hAt := box (Cq.at (q1 := []) (q2 := []) (t := aN) (j := 0) hat ⟨rfl, rfl⟩ (by decide) (by decide) (y : Int))
        have hb := box (show ∃ hy' : y < E.length, max a b ≤ (E[y]).d from by
          have h1 : seekN E (max a b) < E.length := by rw [Hy.out, hE]; exact hyy
          refine ⟨by rw [hE]; exact hyy, ?_⟩
          have h2 := seekN_at h1
          simp only [Hy.out] at h2
          exact h2)
        clear hat h0
        go_wp2_with fail
        refine hAt.out.mono ?_
        rintro e w7 ⟨⟨_, h, _⟩ | ⟨h, _⟩ | ⟨i, hi, he, _, rfl⟩, hc7⟩
        · exact absurd h (by show ¬ ((y : Int) < ((0 : Nat) : Int)); omega)
        · exfalso
          rcases h with h | h
          · omega
          · have h2 : ((0 + E.length : Nat) : Int) ≤ (y : Int) := h
            omega
        · have hiy : i = y := by
            have h2 : (y : Int) = ((0 + i : Nat) : Int) := he
            omega
          subst hiy
          obtain ⟨hy', hbd⟩ := hb.out
          have hq : (⟨aN, 0, 0, 0, E⟩ : QS).l[i] = E[i] := rfl
          rw [hq]
          obtain ⟨⟨ya, yb, yc, yd⟩, hye⟩ : ∃ z, E[i] = z := ⟨_, rfl⟩
          rw [hye] at hbd ⊢
          simp only [P4.cells] at hbd ⊢
          have HQ7 := box (HQ6.out.calm hc7)
          have t5 : decide (max a b ≤ yd) = true := decide_eq_true hbd
          clear hc7 hAt he hq hye hbd hb
          go_wp2_with fail
          go_ret
          exact ⟨rfl, HQ7.out.owns.alloc _⟩
      · have t4 : decide (y < l.length) = false := decide_eq_false hyy
        go_wp2_with fail
        go_ret
        exact ⟨rfl, HQ6.out.owns⟩
end Go.Proofs.YtdepejneliacpaaGreatDoor.cseeks
