/- Layer 14: how offsets stand: order. -/
import Derived.Test.YtafdfmdcnniccaaGreatRows
import Derived.WalkKit
import Derived.ProofKit
import Derived.OpenShut
import Derived.Handy
import Derived.Deep.LoopGhost
import Derived.Lib.Hide
import Derived.Lib.Strings
import Derived.SizedLaws
import Derived.Maps.Own
import Derived.Maps.OwnOps
import Derived.Maps.OwnSet
import Derived.Maps.RangeWalk
import Derived.Deep.QuietTactic
import Derived.BigQuiet
import Derived.Deep.RegionHeld3
import Derived.Lib.ConvBytes
import Derived.Lib.AppendZeros
import Derived.Lib.AppendZerosOnto
import Derived.Lib.LazyBuf
import Derived.Shelf.Abstract
import Derived.LaidEql
import Derived.Lib.SliceRun
import Derived.StillTailTactics
import Derived.Deep.Slices
import Derived.Outline
import Derived.Laws.Cover1
import Derived.Test.YtafdfmdcnniccaaGreatPk13
namespace Go.Proofs.YtafdfmdcnniccaaGreat.ofs
open Go.ChangeShapes Go.WideShapes Go.ChangeAt Go.RowKit
open Go.Proofs.YtafdfmdcnniccaaGreat.dk

def offA (x : OffS) : Array Value := #[.string x.group, .string x.topic, .int .i64 x.queue, .int .i64 x.at_]
theorem isNaNS_any (x : ByteArray) (w : World) : Calls Tryz.prog 72 #[.string x] w fun e w' => e = .returned (.bool false) ∧ w = w' := by
  have h1 : (x.toList != x.toList) = false := by simp
  go_enter Tryz.func72, Tryz.ntmps72
  go_wp2_with fail
  go_ret
  exact ⟨ret_bool (by simp), rfl⟩
theorem isNaNI_any (x : Int) (w : World) : Calls Tryz.prog 73 #[.int .i64 x] w fun e w' => e = .returned (.bool false) ∧ w = w' := by
  have h1 : (x != x) = false := by simp
  go_enter Tryz.func73, Tryz.ntmps73
  go_wp2_with fail
  go_ret
  exact ⟨ret_bool (by simp), rfl⟩
set_option maxRecDepth 100000 in
theorem CmpS_any (x y : ByteArray) (w : World) : Calls Tryz.prog 47 #[.string x, .string y] w fun e w' => e = .returned (.int .i64 (cmpB x y)) ∧ w = w' := by
  have hx := box (isNaNS_any x w)
  have hy := box (isNaNS_any y w)
  have Hc := box (show cmpB x y = if bl x y = true then -1 else if bl y x = true then 1 else 0 from rfl)
  obtain ⟨c, hc⟩ : ∃ c, cmpB x y = c := ⟨_, rfl⟩
  rw [hc] at Hc ⊢
  clear hc
  cases h1 : bl x y
  · have n1 : Op.bytesLess x.toList y.toList = false := h1
    by_cases he : x = y
    · subst he
      have n2 : (x.toList == x.toList) = true := beq_self_eq_true _
      have Hc2 := box (show c = 0 by rw [Hc.out, h1]; simp)
      clear Hc h1
      go_enter Tryz.func47, Tryz.ntmps47
      go_wp2_with fail
      refine hx.out.mono ?_
      rintro e w1 ⟨rfl, rfl⟩
      go_wp2_with fail
      refine hx.out.mono ?_
      rintro e w1 ⟨rfl, rfl⟩
      go_wp2_with fail

      go_ret
      exact ⟨ret_int (by rw [Hc2.out]), rfl⟩
    · have n2 : (x.toList == y.toList) = false := beq_eq_false_iff_ne.2 (fun e => he (toList_inj e))
      have h2 : bl y x = true := by
        cases hb : bl y x with
        | true => rfl
        | false => exact absurd (toList_inj (less_conn h1 hb)) he
      have Hc2 := box (show c = 1 by rw [Hc.out, h1, h2]; simp)
      clear Hc h1 h2
      go_enter Tryz.func47, Tryz.ntmps47
      go_wp2_with fail
      refine hx.out.mono ?_
      rintro e w1 ⟨rfl, rfl⟩
      go_wp2_with fail
      refine hy.out.mono ?_
      rintro e w1 ⟨rfl, rfl⟩
      go_wp2_with fail
      go_ret
      exact ⟨ret_int (by rw [Hc2.out]), rfl⟩
  · have n1 : Op.bytesLess x.toList y.toList = true := h1
    have Hc2 := box (show c = -1 by rw [Hc.out, h1]; simp)
    clear Hc h1
    go_enter Tryz.func47, Tryz.ntmps47
    go_wp2_with fail
    refine hx.out.mono ?_
    rintro e w1 ⟨rfl, rfl⟩
    go_wp2_with fail
    refine hy.out.mono ?_
    rintro e w1 ⟨rfl, rfl⟩
    go_wp2_with fail
    go_ret
    exact ⟨ret_int (by rw [Hc2.out]), rfl⟩
set_option maxRecDepth 100000 in
theorem CmpI_any (x y : Int) (w : World) : Calls Tryz.prog 48 #[.int .i64 x, .int .i64 y] w fun e w' => e = .returned (.int .i64 (cmpI x y)) ∧ w = w' := by
  have hx := box (isNaNI_any x w)
  have hy := box (isNaNI_any y w)
  have Hc := box (show cmpI x y = if x < y then -1 else if y < x then 1 else 0 from rfl)
  obtain ⟨c, hc⟩ : ∃ c, cmpI x y = c := ⟨_, rfl⟩
  rw [hc] at Hc ⊢
  clear hc
  go_enter Tryz.func48, Tryz.ntmps48
  go_wp2_with fail
  refine hx.out.mono ?_
  rintro e w1 ⟨rfl, rfl⟩
  go_wp2_with fail
  refine hy.out.mono ?_
  rintro e w1 ⟨rfl, rfl⟩
  go_wp2_with fail
  all_goals
    go_ret
    exact ⟨ret_int (by rw [Hc.out]; (repeat' split) <;> omega), rfl⟩
set_option maxRecDepth 100000 in
theorem Or3_any (b : Nat) (x y z : Int) (w : World) (h0 : w.cell? ⟨b, 0, none⟩ = some (.int .i64 x)) (h1 : w.cell? ⟨b, 1, none⟩ = some (.int .i64 y)) (h2 : w.cell? ⟨b, 2, none⟩ = some (.int .i64 z)) (hb : b < w.heap.size) :
    Calls Tryz.prog 46 #[.slice (some ⟨b, 0, none⟩) 3 3] w fun e w' => e = .returned (.int .i64 (or3 x y z)) ∧ w = w' := by
  have Hr := box (show or3 x y z = if x ≠ 0 then x else if y ≠ 0 then y else z from rfl)
  obtain ⟨r, hr⟩ : ∃ r, or3 x y z = r := ⟨_, rfl⟩
  rw [hr] at Hr ⊢
  clear hr
  go_enter Tryz.func46, Tryz.ntmps46
  go_wp2_with fail
  go_loopw [8] (fun i wr => wr = w ∧ (i = .int .i64 0 ∨ (i = .int .i64 1 ∧ x = 0) ∨ (i = .int .i64 2 ∧ x = 0 ∧ y = 0) ∨ (i = .int .i64 3 ∧ x = 0 ∧ y = 0 ∧ z = 0))) (fun i _ => 3 - (intOf i).toNat)
  case atStart => exact ⟨by first | rfl | trivial, .inl rfl⟩
  case round =>
    obtain ⟨rfl, hrel⟩ := hrel
    rcases hrel with rfl | ⟨rfl, rfl⟩ | ⟨rfl, rfl, rfl⟩ | ⟨rfl, rfl, rfl, rfl⟩
    · by_cases hx : x = 0
      · subst hx
        clear Hr
        go_wp2_with fail
        go_roundw
        case rel => exact ⟨by first | rfl | trivial, .inr (.inl ⟨by first | rfl | go_num, by first | rfl | trivial⟩)⟩
        case measure => simp [intOf]
      · have hxb : (x == 0) = false := beq_eq_false_iff_ne.2 hx
        have hxb2 : (x != 0) = true := bne_iff_ne.2 hx
        go_wp2_with fail
        go_ret
        first | exact ⟨rfl, rfl⟩ | exact ⟨ret_int (by rw [Hr.out, if_pos hx]), rfl⟩
    · by_cases hy : y = 0
      · subst hy
        clear Hr
        go_wp2_with fail
        go_roundw
        case rel => exact ⟨by first | rfl | trivial, .inr (.inr (.inl ⟨by first | rfl | go_num, by first | rfl | trivial, by first | rfl | trivial⟩))⟩
        case measure => simp [intOf]
      · have hxb : (y == 0) = false := beq_eq_false_iff_ne.2 hy
        have hxb2 : (y != 0) = true := bne_iff_ne.2 hy
        go_wp2_with fail
        go_ret
        first | exact ⟨rfl, rfl⟩ | exact ⟨ret_int (by rw [Hr.out, if_neg (by simp), if_pos hy]), rfl⟩
    · by_cases hz : z = 0
      · subst hz
        clear Hr
        go_wp2_with fail
        go_roundw
        case rel => exact ⟨by first | rfl | trivial, .inr (.inr (.inr ⟨by first | rfl | go_num, by first | rfl | trivial, by first | rfl | trivial, by first | rfl | trivial⟩))⟩
        case measure => simp [intOf]
      · have hxb : (z == 0) = false := beq_eq_false_iff_ne.2 hz
        have hxb2 : (z != 0) = true := bne_iff_ne.2 hz
        go_wp2_with fail
        go_ret
        first | exact ⟨rfl, rfl⟩ | exact ⟨ret_int (by rw [Hr.out]; simp), rfl⟩
    · go_wp2_with fail
      go_ret
      first | exact ⟨rfl, rfl⟩ | exact ⟨ret_int (by rw [Hr.out]; simp), rfl⟩
end Go.Proofs.YtafdfmdcnniccaaGreat.ofs
