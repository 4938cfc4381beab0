/- Layer 10: the order of queues. -/
import Derived.Test.YtdepejneliacpaaGreatDoorRows
import Derived.WalkKit
import Derived.ProofKit
import Derived.OpenShut
import Derived.Handy
import Derived.Deep.LoopGhost
import Derived.Lib.Hide
import Derived.Lib.Strings
import Derived.SizedLaws
import Derived.Maps.Own
import Derived.Maps.OwnOps
import Derived.Maps.OwnSet
import Derived.Maps.RangeWalk
import Derived.Deep.QuietTactic
import Derived.BigQuiet
import Derived.Deep.RegionHeld3
import Derived.Lib.ConvBytes
import Derived.Lib.AppendZeros
import Derived.Lib.AppendZerosOnto
import Derived.Lib.LazyBuf
import Derived.Shelf.Abstract
import Derived.LaidEql
import Derived.Lib.SliceRun
import Derived.StillTailTactics
import Derived.Deep.Slices
import Derived.Lib.Atoi
import Derived.Lib.ItoaNum
import Derived.Lib.SlTrimSet
import Derived.Shelf.SlIter.Nil
import Derived.Ground.GgzProg
import Derived.Shelf.SortM.Plain
import Derived.Shelf.SortM.SortNone
import Derived.Ground.SlgmProg
import Derived.Shelf.SlicesE.DeleteFunc
import Derived.Ground.SlgfProg
import Derived.Test.YtdepejneliacpaaGreatDoorProg
import Derived.Shelf.Strings.Builder1
import Derived.Shelf.Strings.Builder2
import Derived.Shelf.Strings.Trim
import Derived.Shelf.Small.Utf8
import Derived.Shelf.Small.Bits
import Derived.Shelf.Small.Strs
import Derived.Shelf.Small.Wraps
import Derived.Shelf.Strings.BuilderF
import Derived.Shelf.Strings.BuilderK
import Derived.Shelf.Strings.Builder2Cap
import Derived.Shelf.Strconv.Atoi
import Derived.Shelf.Strconv.Itoa0
import Derived.Shelf.Strconv.Itoa1
import Derived.Shelf.LaysM
import Derived.Shelf.Strconv.Itoa2
import Derived.Shelf.Strconv.Itoa3
import Derived.Shelf.Strings.Search1
import Derived.Shelf.Sort.Plain
import Derived.Shelf.GgClosure.StringsIndexFunc
import Derived.Ground.GgwProg
import Derived.Shelf.GgClosure.StringsIndexFuncTop
import Derived.Shelf.GgClosure.StringsRunes
import Derived.Shelf.Strings.Prefix
import Derived.Shelf.Strings.Runes
import Derived.Shelf.Strings.AsciiSet
import Derived.Shelf.Bits.Mul64
import Derived.Shelf.Strings.Repeat
import Derived.Shelf.Unicode.DecodeSlow
import Derived.Shelf.Unicode.DecodeAny
import Derived.Shelf.Unicode.DecodeLast
import Derived.Shelf.Strings.BuilderCap
import Derived.Shelf.Slices.Equal
import Derived.Ground.Names2Prog
import Derived.Shelf.Slices.Clone
import Derived.Shelf.Slices.CompactS
import Derived.Shelf.Slices.SearchI
import Derived.Shelf.Slices.Cells
import Derived.Shelf.Slices.In.SortNone
import Derived.Shelf.Slices.Empties2
import Derived.Ground.SlgnProg
import Derived.Shelf.SlicesE.Equal
import Derived.Shelf.SlicesE.Compact
import Derived.Shelf.SlicesE.Clone
import Derived.Shelf.SlicesE.IndexFunc
import Derived.Shelf.Strings.SlTrimAscii
import Derived.Lib.Repeat
import Derived.Lib.LaidTab
import Derived.Deep.RegionLaw
import Derived.Deep.RegionWith
import Derived.Lib.AtoiErrMem
import Derived.Laws.MakeOwn
import Derived.Lib.Builder
import Derived.Lib.AppendStr
import Derived.Lib.DecodeN
import Derived.Maps.Keyed
import Derived.DeepKeys4
import Derived.Laws.Cover1
import Derived.Test.YtdepejneliacpaaGreatDoorPk27
namespace Go.Proofs.YtdepejneliacpaaGreatDoor.cq
open Go.ChangeShapes Go.WideShapes Go.ChangeAt Go.RowKit Go.ChangeMaps
open Go.Proofs.YtdepejneliacpaaGreatDoor.dk Go.Proofs.YtdepejneliacpaaGreatDoor.sg

theorem less_irrefl : ∀ l : List UInt8, Op.bytesLess l l = false
  | [] => rfl
  | a :: l => by
    have h1 : ¬ a < a := fun h => by simp [UInt8.lt_iff_toNat_lt] at h
    simp [Op.bytesLess, less_irrefl l, h1]
theorem less_trans : ∀ {x y z : List UInt8}, Op.bytesLess x y = true → Op.bytesLess y z = true → Op.bytesLess x z = true
  | _, [], _, h, _ => by simp [Op.bytesLess] at h
  | _, _ :: _, [], _, h => by simp [Op.bytesLess] at h
  | [], _ :: _, _ :: _, _, _ => rfl
  | a :: x, b :: y, c :: z, h1, h2 => by
    simp only [Op.bytesLess, Bool.or_eq_true, Bool.and_eq_true, decide_eq_true_eq, beq_iff_eq] at h1 h2 ⊢
    rcases h1 with h1 | ⟨rfl, h1⟩
    · rcases h2 with h2 | ⟨rfl, h2⟩
      · exact .inl (by simp only [UInt8.lt_iff_toNat_lt] at *; omega)
      · exact .inl h1
    · rcases h2 with h2 | ⟨rfl, h2⟩
      · exact .inl h2
      · exact .inr ⟨rfl, less_trans h1 h2⟩
theorem less_conn : ∀ {x y : List UInt8}, Op.bytesLess x y = false → Op.bytesLess y x = false → x = y
  | [], [], _, _ => rfl
  | [], _ :: _, h, _ => by simp [Op.bytesLess] at h
  | _ :: _, [], _, h => by simp [Op.bytesLess] at h
  | a :: x, b :: y, h1, h2 => by
    simp only [Op.bytesLess, Bool.or_eq_false_iff, Bool.and_eq_false_imp, decide_eq_false_iff_not, beq_iff_eq] at h1 h2
    obtain ⟨n1, e1⟩ := h1
    obtain ⟨n2, e2⟩ := h2
    have hab : a = b := by
      simp only [UInt8.lt_iff_toNat_lt] at n1 n2
      exact UInt8.toNat_inj.1 (by omega)
    subst hab
    rw [less_conn (e1 rfl) (e2 rfl)]
/-- A text stands ahead of another one. -/
def bl (x y : ByteArray) : Bool := Op.bytesLess x.toList y.toList
theorem toList_inj {x y : ByteArray} (h : x.toList = y.toList) : x = y := ba_ext (by rw [← Lib.toList_data, ← Lib.toList_data]; exact h)
def cmpB (x y : ByteArray) : Int := if bl x y = true then -1 else if bl y x = true then 1 else 0
def cmpI (x y : Int) : Int := if x < y then -1 else if y < x then 1 else 0
theorem cmpB_zero {x y : ByteArray} : cmpB x y = 0 ↔ x = y := by
  unfold cmpB
  constructor
  · intro h
    split at h; cases h
    split at h; cases h
    rename_i h1 h2
    exact toList_inj (less_conn (by simpa [bl] using h1) (by simpa [bl] using h2))
  · rintro rfl
    have : bl x x = false := less_irrefl _
    rw [if_neg (by rw [this]; decide), if_neg (by rw [this]; decide)]
theorem cmpB_lt {x y : ByteArray} : cmpB x y < 0 ↔ bl x y = true := by
  unfold cmpB
  constructor
  · intro h
    split at h
    · assumption
    · split at h <;> omega
  · intro h; rw [if_pos h]; decide
theorem cmpI_zero {x y : Int} : cmpI x y = 0 ↔ x = y := by unfold cmpI; split <;> (try split) <;> omega
theorem cmpI_lt {x y : Int} : cmpI x y < 0 ↔ x < y := by unfold cmpI; split <;> (try split) <;> omega
theorem cmpB_anti (x y : ByteArray) : cmpB y x = - cmpB x y := by
  unfold cmpB
  cases h1 : bl x y <;> cases h2 : bl y x <;> simp
  have : bl x x = true := less_trans h1 h2
  rw [show bl x x = false from less_irrefl _] at this
  cases this
theorem cmpI_anti (x y : Int) : cmpI y x = - cmpI x y := by unfold cmpI; split <;> split <;> (try split) <;> omega
theorem cmpB_trans {x y z : ByteArray} (h1 : cmpB x y < 0) (h2 : cmpB y z < 0) : cmpB x z < 0 := cmpB_lt.2 (less_trans (cmpB_lt.1 h1) (cmpB_lt.1 h2))
theorem cmpI_trans {x y z : Int} (h1 : cmpI x y < 0) (h2 : cmpI y z < 0) : cmpI x z < 0 := cmpI_lt.2 (Int.lt_trans (cmpI_lt.1 h1) (cmpI_lt.1 h2))
def or2 (x y : Int) : Int := if x ≠ 0 then x else y
/-- What All tells of a queue. -/
structure QT where
  t : ByteArray
  n : Int
  least : Int
  next : Int
def QT.vals (x : QT) : List Value := [.string x.t, .int .i64 x.n, .int .i64 x.least, .int .i64 x.next]
def ordQ (a b : QT) : Int := or2 (cmpB a.t b.t) (cmpI a.n b.n)
theorem isNaNS_any (x : ByteArray) (w : World) : Calls Tryz.prog 120 #[.string x] w fun e w' => e = .returned (.bool false) ∧ w = w' := by
  have h1 : (x.toList != x.toList) = false := by simp
  go_enter Tryz.func120, Tryz.ntmps120
  go_wp2_with fail
  go_ret
  exact ⟨ret_bool (by simp), rfl⟩
theorem isNaNI_any (x : Int) (w : World) : Calls Tryz.prog 121 #[.int .i64 x] w fun e w' => e = .returned (.bool false) ∧ w = w' := by
  have h1 : (x != x) = false := by simp
  go_enter Tryz.func121, Tryz.ntmps121
  go_wp2_with fail
  go_ret
  exact ⟨ret_bool (by simp), rfl⟩
set_option maxRecDepth 100000 in
theorem CmpS_any (x y : ByteArray) (w : World) : Calls Tryz.prog 73 #[.string x, .string y] w fun e w' => e = .returned (.int .i64 (cmpB x y)) ∧ w = w' := by
  have hx := box (isNaNS_any x w)
  have hy := box (isNaNS_any y w)
  have Hc := box (show cmpB x y = if bl x y = true then -1 else if bl y x = true then 1 else 0 from rfl)
  obtain ⟨c, hc⟩ : ∃ c, cmpB x y = c := ⟨_, rfl⟩
  rw [hc] at Hc ⊢
  clear hc
  cases h1 : bl x y
  · have n1 : Op.bytesLess x.toList y.toList = false := h1
    by_cases he : x = y
    · subst he
      have n2 : (x.toList == x.toList) = true := beq_self_eq_true _
      have Hc2 := box (show c = 0 by rw [Hc.out, h1]; simp)
      clear Hc h1
      go_enter Tryz.func73, Tryz.ntmps73
      go_wp2_with fail
      refine hx.out.mono ?_
      rintro e w1 ⟨rfl, rfl⟩
      go_wp2_with fail
      refine hx.out.mono ?_
      rintro e w1 ⟨rfl, rfl⟩
      go_wp2_with fail

      go_ret
      exact ⟨ret_int (by rw [Hc2.out]), rfl⟩
    · have n2 : (x.toList == y.toList) = false := beq_eq_false_iff_ne.2 (fun e => he (toList_inj e))
      have h2 : bl y x = true := by
        cases hb : bl y x with
        | true => rfl
        | false => exact absurd (toList_inj (less_conn h1 hb)) he
      have Hc2 := box (show c = 1 by rw [Hc.out, h1, h2]; simp)
      clear Hc h1 h2
      go_enter Tryz.func73, Tryz.ntmps73
      go_wp2_with fail
      refine hx.out.mono ?_
      rintro e w1 ⟨rfl, rfl⟩
      go_wp2_with fail
      refine hy.out.mono ?_
      rintro e w1 ⟨rfl, rfl⟩
      go_wp2_with fail
      go_ret
      exact ⟨ret_int (by rw [Hc2.out]), rfl⟩
  · have n1 : Op.bytesLess x.toList y.toList = true := h1
    have Hc2 := box (show c = -1 by rw [Hc.out, h1]; simp)
    clear Hc h1
    go_enter Tryz.func73, Tryz.ntmps73
    go_wp2_with fail
    refine hx.out.mono ?_
    rintro e w1 ⟨rfl, rfl⟩
    go_wp2_with fail
    refine hy.out.mono ?_
    rintro e w1 ⟨rfl, rfl⟩
    go_wp2_with fail
    go_ret
    exact ⟨ret_int (by rw [Hc2.out]), rfl⟩
set_option maxRecDepth 100000 in
theorem CmpI_any (x y : Int) (w : World) : Calls Tryz.prog 74 #[.int .i64 x, .int .i64 y] w fun e w' => e = .returned (.int .i64 (cmpI x y)) ∧ w = w' := by
  have hx := box (isNaNI_any x w)
  have hy := box (isNaNI_any y w)
  have Hc := box (show cmpI x y = if x < y then -1 else if y < x then 1 else 0 from rfl)
  obtain ⟨c, hc⟩ : ∃ c, cmpI x y = c := ⟨_, rfl⟩
  rw [hc] at Hc ⊢
  clear hc
  go_enter Tryz.func74, Tryz.ntmps74
  go_wp2_with fail
  refine hx.out.mono ?_
  rintro e w1 ⟨rfl, rfl⟩
  go_wp2_with fail
  refine hy.out.mono ?_
  rintro e w1 ⟨rfl, rfl⟩
  go_wp2_with fail
  all_goals
    go_ret
    exact ⟨ret_int (by rw [Hc.out]; (repeat' split) <;> omega), rfl⟩
set_option maxRecDepth 100000 in
theorem Or2_any (b : Nat) (x y : Int) (w : World) (h0 : w.cell? ⟨b, 0, none⟩ = some (.int .i64 x)) (h1 : w.cell? ⟨b, 1, none⟩ = some (.int .i64 y)) (hb : b < w.heap.size) :
    Calls Tryz.prog 72 #[.slice (some ⟨b, 0, none⟩) 2 2] w fun e w' => e = .returned (.int .i64 (or2 x y)) ∧ w = w' := by
  have Hr := box (show or2 x y = if x ≠ 0 then x else y from rfl)
  obtain ⟨r, hr⟩ : ∃ r, or2 x y = r := ⟨_, rfl⟩
  rw [hr] at Hr ⊢
  clear hr
  go_enter Tryz.func72, Tryz.ntmps72
  go_wp2_with fail
  go_loopw [8] (fun i wr => wr = w ∧ (i = .int .i64 0 ∨ (i = .int .i64 1 ∧ x = 0) ∨ (i = .int .i64 2 ∧ x = 0 ∧ y = 0))) (fun i _ => 2 - (intOf i).toNat)
  case atStart => exact ⟨by first | rfl | trivial, .inl rfl⟩
  case round =>
    obtain ⟨rfl, hrel⟩ := hrel
    rcases hrel with rfl | ⟨rfl, rfl⟩ | ⟨rfl, rfl, rfl⟩
    · by_cases hx : x = 0
      · subst hx
        clear Hr
        go_wp2_with fail
        go_roundw
        case rel => exact ⟨by first | rfl | trivial, .inr (.inl ⟨by first | rfl | go_num, by first | rfl | trivial⟩)⟩
        case measure => simp [intOf]
      · have hxb : (x == 0) = false := beq_eq_false_iff_ne.2 hx
        have hxb2 : (x != 0) = true := bne_iff_ne.2 hx
        go_wp2_with fail
        go_ret
        first | exact ⟨rfl, rfl⟩ | exact ⟨ret_int (by rw [Hr.out, if_pos hx]), rfl⟩
    · by_cases hy : y = 0
      · subst hy
        clear Hr
        go_wp2_with fail
        go_roundw
        case rel => exact ⟨by first | rfl | trivial, .inr (.inr ⟨by first | rfl | go_num, by first | rfl | trivial, by first | rfl | trivial⟩)⟩
        case measure => simp [intOf]
      · have hxb : (y == 0) = false := beq_eq_false_iff_ne.2 hy
        have hxb2 : (y != 0) = true := bne_iff_ne.2 hy
        go_wp2_with fail
        go_ret
        first | exact ⟨rfl, rfl⟩ | exact ⟨ret_int (by rw [Hr.out]; simp), rfl⟩
    · go_wp2_with fail
      go_ret
      first | exact ⟨rfl, rfl⟩ | exact ⟨ret_int (by rw [Hr.out]; simp), rfl⟩
/-- Two queues' blocks, throughout a region. -/
structure Th (w0 : World) (b0 b1 : Nat) (x y : QT) (w : World) : Prop where
  calm : Calm w0 w
  o0 : w.heap[b0]? = some (.cells #[.string x.t, .int .i64 x.n, .int .i64 x.least, .int .i64 x.next] 57 (0, 0))
  o1 : w.heap[b1]? = some (.cells #[.string y.t, .int .i64 y.n, .int .i64 y.least, .int .i64 y.next] 57 (0, 0))
theorem Th.next {w0 w w' : World} {b0 b1 : Nat} {x y : QT} (h : Th w0 b0 b1 x y w) (hc : Calm w w') : Th w0 b0 b1 x y w' := ⟨h.calm.trans hc, heap_calm hc h.o0, heap_calm hc h.o1⟩
theorem Th.cells {w0 w : World} {b0 b1 : Nat} {x y : QT} (h : Th w0 b0 b1 x y w) : w.cell? ⟨b0, 0, none⟩ = some (.string x.t) ∧ w.cell? ⟨b0, 1, none⟩ = some (.int .i64 x.n) ∧ b0 < w.heap.size ∧ w.cell? ⟨b1, 0, none⟩ = some (.string y.t) ∧ w.cell? ⟨b1, 1, none⟩ = some (.int .i64 y.n) ∧ b1 < w.heap.size ∧ True ∧ True ∧ True ∧ True :=
  ⟨cell_of h.o0 0, cell_of h.o0 1, heap_lt h.o0, cell_of h.o1 0, cell_of h.o1 1, heap_lt h.o1, trivial, trivial, trivial, trivial⟩
theorem heap_drew2 (w : World) : w.drew.heap = w.heap := rfl
set_option maxRecDepth 100000 in
set_option maxHeartbeats 4000000 in
theorem less_any (x y : QT) (w : World) :
    Calls Tryz.prog 71 #[.agg #[.string x.t, .int .i64 x.n, .int .i64 x.least, .int .i64 x.next], .agg #[.string y.t, .int .i64 y.n, .int .i64 y.least, .int .i64 y.next]] w fun e w' => e = .returned (.int .i64 (ordQ x y)) ∧
      w' = (((w.alloc (.cells #[.string x.t, .int .i64 x.n, .int .i64 x.least, .int .i64 x.next] 57)).alloc (.cells #[.string y.t, .int .i64 y.n, .int .i64 y.least, .int .i64 y.next] 57)).alloc (.cells #[.int .i64 (cmpB x.t y.t), .int .i64 (cmpI x.n y.n)] 3)).drew := by
  obtain ⟨w1, hw1⟩ : ∃ w1, w.alloc (.cells #[.string x.t, .int .i64 x.n, .int .i64 x.least, .int .i64 x.next] 57) = w1 := ⟨_, rfl⟩
  have hn0 := heap_new w (.cells #[.string x.t, .int .i64 x.n, .int .i64 x.least, .int .i64 x.next] 57)
  rw [hw1] at hn0
  obtain ⟨w2, hw2⟩ : ∃ w2, w1.alloc (.cells #[.string y.t, .int .i64 y.n, .int .i64 y.least, .int .i64 y.next] 57) = w2 := ⟨_, rfl⟩
  have h1 : Calm w1 w2 := by rw [← hw2]; exact (Calm.refl w1).alloc _
  have hn1 := heap_new w1 (.cells #[.string y.t, .int .i64 y.n, .int .i64 y.least, .int .i64 y.next] 57)
  rw [hw2] at hn1
  have hth : Th w2 w.heap.size w1.heap.size x y w2 := ⟨.refl _, heap_calm h1 hn0, hn1⟩
  have HT := box (hth.next ((Calm.refl w2).drewN 1))
  obtain ⟨xt, xn, xl, xx⟩ := x
  obtain ⟨yt, yn, yl, yx⟩ := y
  have hg := box (fun W => CmpS_any xt yt W)
  have hq := box (fun W => CmpI_any xn yn W)
  have hr : ordQ ⟨xt, xn, xl, xx⟩ ⟨yt, yn, yl, yx⟩ = or2 (cmpB xt yt) (cmpI xn yn) := rfl
  rw [hr, hw1, hw2]
  simp only at hth HT hg hq ⊢
  obtain ⟨a, ha⟩ : ∃ a, cmpB xt yt = a := ⟨_, rfl⟩
  obtain ⟨b, hb⟩ : ∃ b, cmpI xn yn = b := ⟨_, rfl⟩
  rw [ha] at hg ⊢
  rw [hb] at hq ⊢
  have hor := box (fun (W : World) => Or2_any W.heap.size a b (W.alloc (.cells #[.int .i64 a, .int .i64 b] 3)).drew (cell_of (w := (W.alloc (.cells #[.int .i64 a, .int .i64 b] 3)).drew) (heap_new W (.cells #[.int .i64 a, .int .i64 b] 3)) 0) (cell_of (w := (W.alloc (.cells #[.int .i64 a, .int .i64 b] 3)).drew) (heap_new W (.cells #[.int .i64 a, .int .i64 b] 3)) 1) (heap_lt (heap_new W _)))
  obtain ⟨x0, x1, x2, y0, y1, y2, _⟩ := hth.cells
  have HQ := box hth
  clear ha hb hr h1 hn0 hn1 hth
  go_enter Tryz.func71, Tryz.ntmps71
  go_upto_region 1 with fail
  (try rw [hw1])
  (try rw [hw2])
  refine wp_region_held_drew (S := fun W' => Box (Th w2 w.heap.size w1.heap.size ⟨xt, xn, xl, xx⟩ ⟨yt, yn, yl, yx⟩ W')) (by kernel_rfl) HT (fun g0 => ?_)
  ((refine' wpAnyH_take (i := 0) (v := _) rfl (by kernel_rfl) (by kernel_rfl) (by kernel_rfl) (fun _ _ _ h => h) (Or.inl ⟨by rfl, ?hy1⟩) (by assumption) ?rest1; (case hy1 => (intro w hSw; obtain ⟨hz0, hz1, hz2, hz3, hz4, hz5, hz6, hz7, hz8, hz9⟩ := hSw.out.cells; go_simp <;> with_reducible rfl)); simp only [List.getElem_toArray, List.getElem_cons_succ, List.getElem_cons_zero, Act.put, List.setIfInBounds_toArray, List.set_cons_zero, List.set_cons_succ]); (refine' wpAnyH_take (i := 1) (v := _) rfl (by kernel_rfl) (by kernel_rfl) (by kernel_rfl) (fun _ _ _ h => h) (Or.inl ⟨by rfl, ?hy2⟩) (by assumption) ?rest2; (case hy2 => (intro w hSw; obtain ⟨hz0, hz1, hz2, hz3, hz4, hz5, hz6, hz7, hz8, hz9⟩ := hSw.out.cells; go_simp <;> with_reducible rfl)); simp only [List.getElem_toArray, List.getElem_cons_succ, List.getElem_cons_zero, Act.put, List.setIfInBounds_toArray, List.set_cons_zero, List.set_cons_succ]); (refine' wpAnyH_take (i := 2) (v := _) rfl (by kernel_rfl) (by kernel_rfl) (by kernel_rfl) (fun _ _ _ h => h) (Or.inl ⟨by rfl, ?hy3⟩) (by assumption) ?rest3; (case hy3 => (intro w hSw; obtain ⟨hz0, hz1, hz2, hz3, hz4, hz5, hz6, hz7, hz8, hz9⟩ := hSw.out.cells; go_simp <;> with_reducible rfl)); simp only [List.getElem_toArray, List.getElem_cons_succ, List.getElem_cons_zero, Act.put, List.setIfInBounds_toArray, List.set_cons_zero, List.set_cons_succ]); (refine' wpAnyH_take (i := 3) (v := _) rfl (by kernel_rfl) (by kernel_rfl) (by kernel_rfl) (fun _ _ _ h => h) (Or.inl ⟨by rfl, ?hy4⟩) (by assumption) ?rest4; (case hy4 => (intro w hSw; obtain ⟨hz0, hz1, hz2, hz3, hz4, hz5, hz6, hz7, hz8, hz9⟩ := hSw.out.cells; go_simp <;> with_reducible rfl)); simp only [List.getElem_toArray, List.getElem_cons_succ, List.getElem_cons_zero, Act.put, List.setIfInBounds_toArray, List.set_cons_zero, List.set_cons_succ]); (refine' wpAnyH_take (i := 5) (v := _) rfl (by kernel_rfl) (by kernel_rfl) (by kernel_rfl) (fun _ _ _ h => h) (Or.inl ⟨by rfl, ?hy5⟩) (by assumption) ?rest5; (case hy5 => (intro w hSw; obtain ⟨hz0, hz1, hz2, hz3, hz4, hz5, hz6, hz7, hz8, hz9⟩ := hSw.out.cells; go_simp <;> with_reducible rfl)); simp only [List.getElem_toArray, List.getElem_cons_succ, List.getElem_cons_zero, Act.put, List.setIfInBounds_toArray, List.set_cons_zero, List.set_cons_succ]); (refine' wpAnyH_take (i := 6) (v := _) rfl (by kernel_rfl) (by kernel_rfl) (by kernel_rfl) (fun _ _ _ h => h) (Or.inl ⟨by rfl, ?hy6⟩) (by assumption) ?rest6; (case hy6 => (intro w hSw; obtain ⟨hz0, hz1, hz2, hz3, hz4, hz5, hz6, hz7, hz8, hz9⟩ := hSw.out.cells; go_simp <;> with_reducible rfl)); simp only [List.getElem_toArray, List.getElem_cons_succ, List.getElem_cons_zero, Act.put, List.setIfInBounds_toArray, List.set_cons_zero, List.set_cons_succ]); (refine' wpAnyH_take (i := 7) (v := _) rfl (by kernel_rfl) (by kernel_rfl) (by kernel_rfl) (fun _ _ _ h => h) (Or.inl ⟨by rfl, ?hy7⟩) (by assumption) ?rest7; (case hy7 => (intro w hSw; obtain ⟨hz0, hz1, hz2, hz3, hz4, hz5, hz6, hz7, hz8, hz9⟩ := hSw.out.cells; go_simp <;> with_reducible rfl)); simp only [List.getElem_toArray, List.getElem_cons_succ, List.getElem_cons_zero, Act.put, List.setIfInBounds_toArray, List.set_cons_zero, List.set_cons_succ]); (refine' wpAnyH_take (i := 8) (v := _) rfl (by kernel_rfl) (by kernel_rfl) (by kernel_rfl) (fun _ _ _ h => h) (Or.inl ⟨by rfl, ?hy8⟩) (by assumption) ?rest8; (case hy8 => (intro w hSw; obtain ⟨hz0, hz1, hz2, hz3, hz4, hz5, hz6, hz7, hz8, hz9⟩ := hSw.out.cells; go_simp <;> with_reducible rfl)); simp only [List.getElem_toArray, List.getElem_cons_succ, List.getElem_cons_zero, Act.put, List.setIfInBounds_toArray, List.set_cons_zero, List.set_cons_succ]))
  refine wpAnyH_ready (rs := [4]) (by kernel_rfl) (by simp) ?_
  refine AllReadyH.cons rfl (fun K hK => ?_) AllReadyH.nil
  rw [if_pos (by rfl)]
  go_simp
  refine (hg.out _).mono ?_
  rintro e w5 ⟨rfl, rfl⟩
  go_wp2_with fail
  refine hK.out _ _ g0 (fun g1 => ?_)
  clear hK K
  try simp only [List.getElem_toArray, List.getElem_cons_succ, List.getElem_cons_zero, Act.put, List.setIfInBounds_toArray, List.set_cons_zero, List.set_cons_succ]
  refine wpAnyH_ready (rs := [9]) (by kernel_rfl) (by simp) ?_
  refine AllReadyH.cons rfl (fun K hK => ?_) AllReadyH.nil
  rw [if_pos (by rfl)]
  go_simp
  refine (hq.out _).mono ?_
  rintro e w5 ⟨rfl, rfl⟩
  go_wp2_with fail
  refine hK.out _ _ g1 (fun g2 => ?_)
  clear hK K
  try simp only [List.getElem_toArray, List.getElem_cons_succ, List.getElem_cons_zero, Act.put, List.setIfInBounds_toArray, List.set_cons_zero, List.set_cons_succ]
  refine wpAnyH_ready (rs := [10]) (by kernel_rfl) (by simp) ?_
  refine AllReadyH.cons rfl (fun K hK => ?_) AllReadyH.nil
  rw [if_pos (by rfl)]
  go_simp
  refine hK.out _ _ (box (show Th w2 w.heap.size w1.heap.size ⟨xt, xn, xl, xx⟩ ⟨yt, yn, yl, yx⟩ (w2.alloc (.cells #[.int .i64 a, .int .i64 b] 3)).drew from (HQ.out.next ((Calm.refl _).alloc _)).next ((Calm.refl _).drewN 1))) (fun g3 => ?_)
  clear hK K
  try simp only [List.getElem_toArray, List.getElem_cons_succ, List.getElem_cons_zero, Act.put, List.setIfInBounds_toArray, List.set_cons_zero, List.set_cons_succ]
  refine wpAnyH_ready (rs := [11]) (by kernel_rfl) (by simp) ?_
  refine AllReadyH.cons rfl (fun K hK => ?_) AllReadyH.nil
  rw [if_pos (by rfl)]
  go_simp
  refine (hor.out _).mono ?_
  rintro e w5 ⟨rfl, rfl⟩
  go_wp2_with fail
  refine hK.out _ _ g3 (fun g4 => ?_)
  clear hK K
  try simp only [List.getElem_toArray, List.getElem_cons_succ, List.getElem_cons_zero, Act.put, List.setIfInBounds_toArray, List.set_cons_zero, List.set_cons_succ]
  ((refine' wpAnyH_take (i := 12) (v := _) rfl (by kernel_rfl) (by kernel_rfl) (by kernel_rfl) (fun _ _ _ h => h) (Or.inl ⟨by rfl, ?hy9⟩) (by assumption) ?rest9; (case hy9 => (intro w hSw; (try dsimp only at hSw); go_simp <;> with_reducible rfl)); simp only [List.getElem_toArray, List.getElem_cons_succ, List.getElem_cons_zero, Act.put, List.setIfInBounds_toArray, List.set_cons_zero, List.set_cons_succ]))
  refine wpAnyH_done (by kernel_rfl) ?_ _
  go_wp2_with fail
  go_ret
  exact ⟨rfl, rfl⟩
end Go.Proofs.YtdepejneliacpaaGreatDoor.cq
