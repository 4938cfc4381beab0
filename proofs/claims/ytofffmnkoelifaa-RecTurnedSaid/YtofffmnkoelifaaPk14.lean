/- Plain: the model's bit operations at uint32. -/
import Derived.Test.YtofffmnkoelifaaRows
import Derived.WalkKit
import Derived.ProofKit
import Derived.OpenShut
import Derived.Handy
import Derived.Deep.LoopGhost
import Derived.Lib.Hide
import Derived.Lib.Strings
import Derived.SizedLaws
import Derived.Deep.Slices
import Derived.Shelf.SlIter.Nil
import Derived.Ground.GgzProg
import Derived.Shelf.SortM.Plain
import Derived.Shelf.SortM.SortNone
import Derived.Ground.SlgmProg
import Derived.Test.YtofffmnkoelifaaProg
import Derived.Shelf.Strings.Builder1
import Derived.Shelf.Strings.Builder2
import Derived.Shelf.Small.Bits
import Derived.Shelf.Small.Wraps
import Derived.Shelf.Strings.BuilderF
import Derived.Shelf.Strings.BuilderK
import Derived.Shelf.Strings.Builder2Cap
import Derived.Shelf.Strconv.Itoa0
import Derived.Shelf.Sort.Plain
import Derived.Shelf.GgClosure.StringsIndexFunc
import Derived.Ground.GgwProg
import Derived.Shelf.GgClosure.StringsIndexFuncTop
import Derived.Shelf.GgClosure.StringsRunes
import Derived.Shelf.Strings.Prefix
import Derived.Shelf.Bits.Mul64
import Derived.Shelf.Strings.Repeat
import Derived.Shelf.Strings.BuilderCap
import Derived.Shelf.Slices.Equal
import Derived.Ground.Names2Prog
import Derived.Shelf.Slices.Clone
import Derived.Shelf.Slices.CompactS
import Derived.Shelf.Slices.SearchI
import Derived.Shelf.Slices.Cells
import Derived.Shelf.Slices.In.SortNone
import Derived.Shelf.Slices.Empties2
import Derived.Ground.SlgnProg
import Derived.Shelf.SlicesE.Equal
import Derived.Shelf.SlicesE.Compact
import Derived.Ground.SlgfProg
import Derived.Shelf.SlicesE.IndexFunc
import Derived.Shelf.SlicesE.DeleteFunc
import Derived.RangeFuncBox
import Derived.RangeFuncLeaves
import Derived.Shelf.Abstract
import Derived.OwnWalkIn
import Derived.TacticsInMore
import Derived.LoopNIn
import Derived.LoopIn
import Derived.Maps.AppendAt
import Derived.Lib.SlicesCompact
import Derived.Deep.QuietTactic
import Derived.BigQuiet
import Derived.Laws.ResultCell
import Derived.Laws.Rows
import Derived.Lib.ConvBytes
import Derived.Lib.AppendZeros
import Derived.Lib.AppendZerosOnto
import Derived.Lib.LazyBuf
import Derived.Laws.MakeOwn
import Derived.Lib.Builder
import Derived.Lib.AppendStr
import Derived.Deep.RegionHeld3
import Derived.Laws.BitsLemmas
import Derived.Test.YtofffmnkoelifaaPk13
namespace Go.Proofs.Ytofffmnkoelifaa.cr
open Go.RowKit

theorem xor32 (a b : Nat) (ha : a < 4294967296) (hb : b < 4294967296) : bits .xor .u32 (a : Int) (b : Int) = ((a ^^^ b : Nat) : Int) := by
  have hx : a ^^^ b < 4294967296 := Nat.xor_lt_two_pow (n := 32) (by omega) (by omega)
  simp only [bits, BitVec.ofInt_natCast, BitVec.toNat_xor, BitVec.toNat_ofNat]
  rw [show IntKind.u32.bits = 32 from rfl, Nat.mod_eq_of_lt (by omega), Nat.mod_eq_of_lt (by omega), IntKind.wrap_u32]
  omega
theorem and32 (a b : Nat) (ha : a < 4294967296) (hb : b < 4294967296) : bits .and .u32 (a : Int) (b : Int) = ((a &&& b : Nat) : Int) :=
  (bits_nat .u32 32 (by decide) (fun n h0 h1 => by rw [IntKind.wrap_u32]; omega) a b (by omega) (by omega)).1
theorem or32 (a b : Nat) (ha : a < 4294967296) (hb : b < 4294967296) : bits .or .u32 (a : Int) (b : Int) = ((a ||| b : Nat) : Int) :=
  (bits_nat .u32 32 (by decide) (fun n h0 h1 => by rw [IntKind.wrap_u32]; omega) a b (by omega) (by omega)).2
theorem xor8 (a b : Nat) (ha : a < 256) (hb : b < 256) : bits .xor .u8 (a : Int) (b : Int) = ((a ^^^ b : Nat) : Int) := by
  have hx : a ^^^ b < 256 := Nat.xor_lt_two_pow (n := 8) (by omega) (by omega)
  simp only [bits, BitVec.ofInt_natCast, BitVec.toNat_xor, BitVec.toNat_ofNat]
  rw [show IntKind.u8.bits = 8 from rfl, Nat.mod_eq_of_lt (by omega), Nat.mod_eq_of_lt (by omega), IntKind.wrap_u8]
  omega
theorem and255 (a : Nat) (ha : a < 4294967296) : bits .and .u32 (a : Int) 255 = ((a % 256 : Nat) : Int) := by
  have := and32 a 255 ha (by decide)
  rw [show ((255 : Nat) : Int) = 255 from rfl] at this
  rw [this, show a &&& 255 = a % 256 from Nat.and_two_pow_sub_one_eq_mod a 8]
theorem and1 (a : Nat) (ha : a < 4294967296) : bits .and .u32 (a : Int) 1 = ((a % 2 : Nat) : Int) := by
  have := and32 a 1 ha (by decide)
  rw [show ((1 : Nat) : Int) = 1 from rfl] at this
  rw [this, show a &&& 1 = a % 2 from Nat.and_two_pow_sub_one_eq_mod a 1]
end Go.Proofs.Ytofffmnkoelifaa.cr

/- Layer 2: check sums, by tables. -/
namespace Go.Proofs.Ytofffmnkoelifaa.cr
open Go.ChangeShapes Go.WideShapes Go.ChangeAt Go.RowKit

theorem first_any (b : Nat) (w : World) (hb : b < 256) : Calls Try.prog 49 #[.int .u32 b] w fun e w' => e = .returned (.int .u32 (steps 8 b : Nat)) ∧ w = w' := by
  go_enter Try.func49, Try.ntmps49
  go_wp2_with fail
  go_loopw [0, 4] (fun x i wr => wr = w ∧ ∃ k y : Nat, k ≤ 8 ∧ i = .int .i64 k ∧ x = .int .u32 y ∧ y < 4294967296 ∧ steps (8 - k) y = steps 8 b) (fun _ i _ => 8 - (intOf i).toNat)
  case atStart => exact ⟨by first | rfl | trivial, 0, b, by omega, rfl, rfl, by omega, rfl⟩
  case round =>
    obtain ⟨rfl, k, y, hk, rfl, rfl, hy, hst⟩ := hrel
    by_cases hlt : k < 8
    · have hst2 := box (show steps (8 - (k + 1)) (step1 y) = steps 8 b by rw [← hst, show 8 - k = (8 - (k + 1)) + 1 by omega]; rfl)
      have hs1 := box (step1_lt hy)
      have ha := and1 y hy
      by_cases hodd : y % 2 = 1
      · rw [hodd] at ha
        have hx : bits .xor .u32 ((y : Int) / 2) 3988292384 = ((step1 y : Nat) : Int) := by
          have := xor32 (y / 2) 3988292384 (by omega) (by decide)
          unfold step1
          rw [if_pos hodd, ← show ((3988292384 : Nat) : Int) = 3988292384 from rfl, ← show ((y / 2 : Nat) : Int) = (y : Int) / 2 by omega, this]
          rfl
        go_wp2_with fail
        go_roundw
        case rel => exact ⟨by first | rfl | trivial, k + 1, step1 y, by omega, by go_num, rfl, hs1.out, hst2.out⟩
        case measure => simp [intOf]; omega
      · have h0 : y % 2 = 0 := by omega
        rw [h0] at ha
        have hx : (y : Int) / 2 = ((step1 y : Nat) : Int) := by unfold step1; rw [if_neg hodd, Nat.xor_zero]; omega
        go_wp2_with fail
        go_roundw
        case rel => exact ⟨by first | rfl | trivial, k + 1, step1 y, by omega, by go_num, rfl, hs1.out, hst2.out⟩
        case measure => simp [intOf]; omega
    · obtain rfl : k = 8 := by omega
      go_wp2_with fail
      go_ret
      exact ⟨ret_int (by rw [← hst]; rfl), rfl⟩
/-- The four tables' cells: the first n are laid. -/
abbrev tabI (n i : Nat) : Nat := if i < n then steps (8 * (i / 256 + 1)) (i % 256) else 0
def tabC (n : Nat) : Array Value := ((List.range 1024).map fun i => Value.int .u32 ((tabI n i : Nat) : Int)).toArray
def TabAt (w : World) (b n : Nat) : Prop := w.heap[b]? = some (.cells (tabC n) 87 (0, 0))
theorem tabC_get (n i : Nat) (hi : i < 1024) : (tabC n)[i]? = some (.int .u32 ((tabI n i : Nat) : Int)) := by
  unfold tabC; simp [hi]
theorem tabC_set (n : Nat) (h : n < 1024) : (tabC n).setIfInBounds n (.int .u32 ((steps (8 * (n / 256 + 1)) (n % 256) : Nat) : Int)) = tabC (n + 1) := by
  apply Array.ext_getElem?
  intro i
  rw [Array.getElem?_setIfInBounds]
  by_cases hi : i < 1024
  · by_cases e : n = i
    · subst e
      rw [if_pos rfl, if_pos (by unfold tabC; simp; omega), tabC_get _ _ hi]
      unfold tabI
      rw [if_pos (by omega)]
    · rw [if_neg e, tabC_get _ _ hi, tabC_get _ _ hi]
      unfold tabI
      by_cases h1 : i < n
      · rw [if_pos h1, if_pos (by omega)]
      · rw [if_neg h1, if_neg (by omega)]
  · have h1 : (tabC n)[i]? = none := by unfold tabC; simp; omega
    have h2 : (tabC (n + 1))[i]? = none := by unfold tabC; simp; omega
    rw [if_neg (by omega), h1, h2]
theorem zero_tab : Try.zeroCells87 = tabC 0 := by kernel_rfl
theorem tab_cell {w : World} {b n : Nat} (h : TabAt w b n) (i : Nat) (hi : i < 1024) : w.cell? ⟨b, i, none⟩ = some (.int .u32 ((tabI n i : Nat) : Int)) := by rw [cell_of h, tabC_get n i hi]
theorem tab_store {w : World} {b n : Nat} (h : TabAt w b n) (hn : n < 1024) : TabAt (w.setCell ⟨b, n, none⟩ (.int .u32 ((steps (8 * (n / 256 + 1)) (n % 256) : Nat) : Int))) b (n + 1) := by
  have := heap_set h n (.int .u32 ((steps (8 * (n / 256 + 1)) (n % 256) : Nat) : Int))
  rw [tabC_set n hn] at this
  exact this
theorem calm_tab {a w : World} (h : Calm a w) {b k : Nat} (hp : a.heap.size ≤ b) (u : Value) : Calm a (w.setCell ⟨b, k, none⟩ u) :=
  ((Keeps.of_calm (F := fun b => a.heap.size ≤ b) h).setCell (p := ⟨b, k, none⟩) (.inr hp) u).below (Nat.le_refl _) (fun _ h => h)
set_option maxRecDepth 100000 in
set_option maxHeartbeats 4000000 in
theorem New_any (w : World) : Calls Try.prog 24 #[] w fun e w' => ∃ b, e = .returned (.pointer (some ⟨b, 0, none⟩)) ∧ TabAt w' b 1024 ∧ w.heap.size ≤ b ∧ Calm w w' := by
  have T0 := box (show TabAt (w.alloc (.cells Try.zeroCells87 87)) w.heap.size 0 by unfold TabAt; rw [← zero_tab]; exact heap_new w _)
  have C0 := box ((Calm.refl w).alloc (.cells Try.zeroCells87 87))
  go_enter Try.func24, Try.ntmps24
  go_wp2_with fail
  go_loopw [8] (fun i wr => ∃ k : Nat, k ≤ 256 ∧ i = .int .i64 k ∧ TabAt wr w.heap.size k ∧ Calm w wr) (fun i _ => 256 - (intOf i).toNat)
  case atStart => exact ⟨0, Nat.zero_le _, rfl, T0.out, C0.out⟩
  case round =>
    clear T0 C0
    obtain ⟨k, hk, rfl, ht, hc⟩ := hrel
    have HT := box ht
    have HC := box hc
    clear ht hc
    by_cases hlt : k < 256
    · have hst := box (by have := tab_store HT.out (show k < 1024 by omega); rwa [show k / 256 = 0 by omega, show k % 256 = k by omega] at this)
      have hcal := box ((calm_tab HC.out (b := w.heap.size) (k := k) (Nat.le_refl _) (.int .u32 ((steps 8 k : Nat) : Int))).drew)
      have c0 := tab_cell HT.out k (by omega)
      have f0 := free_of HT.out k
      have hb := heap_lt HT.out
      have hw : IntKind.u32.wrap (k : Int) = k := by rw [IntKind.wrap_u32]; omega
      go_wp2_with fail
      go_region_held3 (fun w' => w'.frozen? ⟨w.heap.size, k, none⟩ = false) (go_keep) ((go_at_call 49; refine (first_any k _ hlt).mono ?_; rintro e w' ⟨rfl, rfl⟩))
      go_wp2_with fail
      go_roundw
      case rel => exact ⟨k + 1, by omega, by go_num, hst.out, hcal.out⟩
      case measure => simp [intOf]; omega
    · obtain rfl : k = 256 := by omega
      rw [show ((256 : Nat) : Int) = 256 from rfl]
      go_wp2_with fail
      go_loopw [3] (fun i wr => ∃ k : Nat, 1 ≤ k ∧ k ≤ 4 ∧ i = .int .i64 k ∧ TabAt wr w.heap.size (256 * k) ∧ Calm w wr) (fun i _ => 4 - (intOf i).toNat)
      case atStart => exact ⟨1, by omega, by omega, rfl, HT.out, HC.out⟩
      case round =>
        clear HT HC
        obtain ⟨k, hk1, hk4, rfl, ht, hc⟩ := hrel
        have HT := box ht
        have HC := box hc
        clear ht hc
        obtain ⟨wo, hwo⟩ : ∃ wo : World, wo = wr := ⟨_, rfl⟩
        subst hwo
        by_cases hlt : k < 4
        · have h123 : k = 1 ∨ k = 2 ∨ k = 3 := by omega
          rcases h123 with rfl | rfl | rfl
          · rw [show ((1 : Nat) : Int) = 1 from rfl]
            go_wp2_with fail
            go_loopw [25] (fun i wr => ∃ j : Nat, j ≤ 256 ∧ i = .int .i64 j ∧ TabAt wr w.heap.size (256 * 1 + j) ∧ Calm w wr) (fun i _ => 256 - (intOf i).toNat)
            case atStart => exact ⟨0, by omega, rfl, HT.out, HC.out⟩
            case round =>
              clear HT HC
              obtain ⟨j, hj, rfl, ht, hc⟩ := hrel
              have HT := box ht
              have HC := box hc
              clear ht hc
              by_cases hjlt : j < 256
              · have HT := box (show TabAt wr w.heap.size (256 + j) from HT.out)
                have hst := box (by have := tab_store HT.out (show 256 + j < 1024 by omega); rwa [show (256 + j) / 256 = 1 by omega, show (256 + j) % 256 = j by omega, tab_next 0 j] at this)
                obtain ⟨y, hy⟩ : ∃ y, steps (8 * (0 + 1)) j = y := ⟨_, rfl⟩
                have hyl : y < 4294967296 := by rw [← hy]; exact steps_lt _ (by omega)
                have c1 := tab_cell HT.out (j) (by omega)
                rw [show tabI (256 + j) (j) = y by unfold tabI; rw [if_pos (by omega), show (j) / 256 = 0 by omega, show (j) % 256 = j by omega, hy]] at c1
                have c2 := tab_cell HT.out (y % 256) (by omega)
                rw [show tabI (256 + j) (y % 256) = steps 8 (y % 256) by unfold tabI; rw [if_pos (by omega), show (y % 256) / 256 = 0 by omega, show (y % 256) % 256 = y % 256 by omega]] at c2
                obtain ⟨z, hz⟩ : ∃ z, steps 8 (y % 256) = z := ⟨_, rfl⟩
                have hzl : z < 4294967296 := by rw [← hz]; exact steps_lt 8 (by omega)
                rw [hy, hz] at hst
                rw [hz] at c2
                have ha := and255 y hyl
                obtain ⟨u, hu⟩ : ∃ u, y % 256 = u := ⟨_, rfl⟩
                have hul : u < 256 := by omega
                have hul2 : (u : Int) < 256 := by omega
                rw [hu] at ha c2 hz
                have hx : bits .xor .u32 (z : Int) ((y : Int) / 256) = ((z ^^^ y / 256 : Nat) : Int) := by
                  rw [← show ((y / 256 : Nat) : Int) = (y : Int) / 256 by omega]; exact xor32 z (y / 256) hzl (by omega)
                have c3 := tab_cell HT.out (256 + j) (by omega)
                have f3 := free_of HT.out (256 + j)
                have hb := heap_lt HT.out
                have hcal := box ((calm_tab HC.out (b := w.heap.size) (k := 256 + j) (Nat.le_refl _) (.int .u32 ((z ^^^ y / 256 : Nat) : Int))).drew)
                have hS := box (show (wr.setCell ⟨w.heap.size, 256 + j, none⟩ (.int .u32 ((z ^^^ y / 256 : Nat) : Int))).cell? ⟨w.heap.size, u, none⟩ = some (.int .u32 z) from by
                  have := tab_cell hst.out u (by omega)
                  rw [show tabI (256 + j + 1) u = z by unfold tabI; rw [if_pos (by omega), show u / 256 = 0 by omega, show u % 256 = u by omega]; exact hz] at this
                  exact this)
                clear hy hz hu
                go_wp2_with fail
                go_region_held3 (fun w' => w'.cell? ⟨w.heap.size, u, none⟩ = some (.int .u32 (z : Nat))) (first | exact hS.out | go_keep) (fail)
                go_wp2_with fail
                go_roundw
                case rel => exact ⟨j + 1, by omega, by go_num, by rw [show 256 * 1 + (j + 1) = 256 + j + 1 by omega]; exact hst.out, hcal.out⟩
                case measure => simp [intOf]; omega
              · obtain rfl : j = 256 := by omega
                go_wp2_with fail
                go_roundw
                case rel => exact ⟨2, by omega, by omega, by go_num, HT.out, HC.out⟩
                case measure => simp [intOf]
          · rw [show ((2 : Nat) : Int) = 2 from rfl]
            go_wp2_with fail
            go_loopw [25] (fun i wr => ∃ j : Nat, j ≤ 256 ∧ i = .int .i64 j ∧ TabAt wr w.heap.size (256 * 2 + j) ∧ Calm w wr) (fun i _ => 256 - (intOf i).toNat)
            case atStart => exact ⟨0, by omega, rfl, HT.out, HC.out⟩
            case round =>
              clear HT HC
              obtain ⟨j, hj, rfl, ht, hc⟩ := hrel
              have HT := box ht
              have HC := box hc
              clear ht hc
              by_cases hjlt : j < 256
              · have HT := box (show TabAt wr w.heap.size (512 + j) from HT.out)
                have hst := box (by have := tab_store HT.out (show 512 + j < 1024 by omega); rwa [show (512 + j) / 256 = 2 by omega, show (512 + j) % 256 = j by omega, tab_next 1 j] at this)
                obtain ⟨y, hy⟩ : ∃ y, steps (8 * (1 + 1)) j = y := ⟨_, rfl⟩
                have hyl : y < 4294967296 := by rw [← hy]; exact steps_lt _ (by omega)
                have c1 := tab_cell HT.out (256 + j) (by omega)
                rw [show tabI (512 + j) (256 + j) = y by unfold tabI; rw [if_pos (by omega), show (256 + j) / 256 = 1 by omega, show (256 + j) % 256 = j by omega, hy]] at c1
                have c2 := tab_cell HT.out (y % 256) (by omega)
                rw [show tabI (512 + j) (y % 256) = steps 8 (y % 256) by unfold tabI; rw [if_pos (by omega), show (y % 256) / 256 = 0 by omega, show (y % 256) % 256 = y % 256 by omega]] at c2
                obtain ⟨z, hz⟩ : ∃ z, steps 8 (y % 256) = z := ⟨_, rfl⟩
                have hzl : z < 4294967296 := by rw [← hz]; exact steps_lt 8 (by omega)
                rw [hy, hz] at hst
                rw [hz] at c2
                have ha := and255 y hyl
                obtain ⟨u, hu⟩ : ∃ u, y % 256 = u := ⟨_, rfl⟩
                have hul : u < 256 := by omega
                have hul2 : (u : Int) < 256 := by omega
                rw [hu] at ha c2 hz
                have hx : bits .xor .u32 (z : Int) ((y : Int) / 256) = ((z ^^^ y / 256 : Nat) : Int) := by
                  rw [← show ((y / 256 : Nat) : Int) = (y : Int) / 256 by omega]; exact xor32 z (y / 256) hzl (by omega)
                have c3 := tab_cell HT.out (512 + j) (by omega)
                have f3 := free_of HT.out (512 + j)
                have hb := heap_lt HT.out
                have hcal := box ((calm_tab HC.out (b := w.heap.size) (k := 512 + j) (Nat.le_refl _) (.int .u32 ((z ^^^ y / 256 : Nat) : Int))).drew)
                have hS := box (show (wr.setCell ⟨w.heap.size, 512 + j, none⟩ (.int .u32 ((z ^^^ y / 256 : Nat) : Int))).cell? ⟨w.heap.size, u, none⟩ = some (.int .u32 z) from by
                  have := tab_cell hst.out u (by omega)
                  rw [show tabI (512 + j + 1) u = z by unfold tabI; rw [if_pos (by omega), show u / 256 = 0 by omega, show u % 256 = u by omega]; exact hz] at this
                  exact this)
                clear hy hz hu
                go_wp2_with fail
                go_region_held3 (fun w' => w'.cell? ⟨w.heap.size, u, none⟩ = some (.int .u32 (z : Nat))) (first | exact hS.out | go_keep) (fail)
                go_wp2_with fail
                go_roundw
                case rel => exact ⟨j + 1, by omega, by go_num, by rw [show 256 * 2 + (j + 1) = 512 + j + 1 by omega]; exact hst.out, hcal.out⟩
                case measure => simp [intOf]; omega
              · obtain rfl : j = 256 := by omega
                go_wp2_with fail
                go_roundw
                case rel => exact ⟨3, by omega, by omega, by go_num, HT.out, HC.out⟩
                case measure => simp [intOf]
          · rw [show ((3 : Nat) : Int) = 3 from rfl]
            go_wp2_with fail
            go_loopw [25] (fun i wr => ∃ j : Nat, j ≤ 256 ∧ i = .int .i64 j ∧ TabAt wr w.heap.size (256 * 3 + j) ∧ Calm w wr) (fun i _ => 256 - (intOf i).toNat)
            case atStart => exact ⟨0, by omega, rfl, HT.out, HC.out⟩
            case round =>
              clear HT HC
              obtain ⟨j, hj, rfl, ht, hc⟩ := hrel
              have HT := box ht
              have HC := box hc
              clear ht hc
              by_cases hjlt : j < 256
              · have HT := box (show TabAt wr w.heap.size (768 + j) from HT.out)
                have hst := box (by have := tab_store HT.out (show 768 + j < 1024 by omega); rwa [show (768 + j) / 256 = 3 by omega, show (768 + j) % 256 = j by omega, tab_next 2 j] at this)
                obtain ⟨y, hy⟩ : ∃ y, steps (8 * (2 + 1)) j = y := ⟨_, rfl⟩
                have hyl : y < 4294967296 := by rw [← hy]; exact steps_lt _ (by omega)
                have c1 := tab_cell HT.out (512 + j) (by omega)
                rw [show tabI (768 + j) (512 + j) = y by unfold tabI; rw [if_pos (by omega), show (512 + j) / 256 = 2 by omega, show (512 + j) % 256 = j by omega, hy]] at c1
                have c2 := tab_cell HT.out (y % 256) (by omega)
                rw [show tabI (768 + j) (y % 256) = steps 8 (y % 256) by unfold tabI; rw [if_pos (by omega), show (y % 256) / 256 = 0 by omega, show (y % 256) % 256 = y % 256 by omega]] at c2
                obtain ⟨z, hz⟩ : ∃ z, steps 8 (y % 256) = z := ⟨_, rfl⟩
                have hzl : z < 4294967296 := by rw [← hz]; exact steps_lt 8 (by omega)
                rw [hy, hz] at hst
                rw [hz] at c2
                have ha := and255 y hyl
                obtain ⟨u, hu⟩ : ∃ u, y % 256 = u := ⟨_, rfl⟩
                have hul : u < 256 := by omega
                have hul2 : (u : Int) < 256 := by omega
                rw [hu] at ha c2 hz
                have hx : bits .xor .u32 (z : Int) ((y : Int) / 256) = ((z ^^^ y / 256 : Nat) : Int) := by
                  rw [← show ((y / 256 : Nat) : Int) = (y : Int) / 256 by omega]; exact xor32 z (y / 256) hzl (by omega)
                have c3 := tab_cell HT.out (768 + j) (by omega)
                have f3 := free_of HT.out (768 + j)
                have hb := heap_lt HT.out
                have hcal := box ((calm_tab HC.out (b := w.heap.size) (k := 768 + j) (Nat.le_refl _) (.int .u32 ((z ^^^ y / 256 : Nat) : Int))).drew)
                have hS := box (show (wr.setCell ⟨w.heap.size, 768 + j, none⟩ (.int .u32 ((z ^^^ y / 256 : Nat) : Int))).cell? ⟨w.heap.size, u, none⟩ = some (.int .u32 z) from by
                  have := tab_cell hst.out u (by omega)
                  rw [show tabI (768 + j + 1) u = z by unfold tabI; rw [if_pos (by omega), show u / 256 = 0 by omega, show u % 256 = u by omega]; exact hz] at this
                  exact this)
                clear hy hz hu
                go_wp2_with fail
                go_region_held3 (fun w' => w'.cell? ⟨w.heap.size, u, none⟩ = some (.int .u32 (z : Nat))) (first | exact hS.out | go_keep) (fail)
                go_wp2_with fail
                go_roundw
                case rel => exact ⟨j + 1, by omega, by go_num, by rw [show 256 * 3 + (j + 1) = 768 + j + 1 by omega]; exact hst.out, hcal.out⟩
                case measure => simp [intOf]; omega
              · obtain rfl : j = 256 := by omega
                go_wp2_with fail
                go_roundw
                case rel => exact ⟨4, by omega, by omega, by go_num, HT.out, HC.out⟩
                case measure => simp [intOf]
        · obtain rfl : k = 4 := by omega
          go_wp2_with fail
          go_ret
          exact ⟨w.heap.size, rfl, HT.out, Nat.le_refl _, HC.out⟩
set_option maxRecDepth 100000 in
set_option maxHeartbeats 4000000 in
theorem one_any (b x : Nat) (c : UInt8) (w : World) (h : TabAt w b 1024) (hx : x < 4294967296) :
    Calls Try.prog 109 #[.pointer (some ⟨b, 0, none⟩), .int .u32 x, .int .u8 c.toNat] w fun e w' => e = .returned (.int .u32 (crcB x c : Nat)) ∧ w = w' := by
  have hcb := c.toNat_lt
  obtain ⟨u, hu⟩ : ∃ u, (x % 256) ^^^ c.toNat = u := ⟨_, rfl⟩
  have hul : u < 256 := by rw [← hu]; exact Nat.xor_lt_two_pow (n := 8) (by omega) (by omega)
  have c0 := tab_cell h u (by omega)
  rw [show tabI 1024 u = steps 8 u by unfold tabI; rw [if_pos (by omega), show u / 256 = 0 by omega, show u % 256 = u by omega]] at c0
  have hb := heap_lt h
  have hz : steps 8 u < 4294967296 := steps_lt 8 (by omega)
  have hr : crcB x c = steps 8 u ^^^ x / 256 := by rw [crcB_tab, hu]
  rw [hr]
  obtain ⟨z, hzz⟩ : ∃ z, steps 8 u = z := ⟨_, rfl⟩
  rw [hzz] at c0 hz ⊢
  have hw : IntKind.u8.wrap (x : Int) = ((x % 256 : Nat) : Int) := by rw [IntKind.wrap_u8]; omega
  have ha : bits .xor .u8 ((x % 256 : Nat) : Int) (c.toNat : Int) = (u : Int) := by rw [xor8 _ _ (by omega) hcb, hu]
  have ha' : bits .xor .u8 ((x : Int) % 256) (c.toNat : Int) = (u : Int) := by rw [← ha]; congr 1
  have hx2 : bits .xor .u32 (z : Int) ((x : Int) / 256) = ((z ^^^ x / 256 : Nat) : Int) := by
    rw [← show ((x / 256 : Nat) : Int) = (x : Int) / 256 by omega]; exact xor32 z (x / 256) hz (by omega)
  have hul2 : (u : Int) < 256 := by omega
  clear h hu hr hzz
  go_enter Try.func109, Try.ntmps109
  go_wp2_with fail
  go_ret
  exact ⟨rfl, rfl⟩
end Go.Proofs.Ytofffmnkoelifaa.cr

/- Layer 2: sums, sealed texts. -/
namespace Go.Proofs.Ytofffmnkoelifaa.cr
open Go.ChangeShapes Go.WideShapes Go.ChangeAt Go.RowKit
open Go.Proofs.Ytofffmnkoelifaa.oc Go.Proofs.Ytofffmnkoelifaa.rc

theorem xor_join (n a b : Nat) (h : a < 2 ^ n) : a ^^^ (2 ^ n * b) = 2 ^ n * b + a := by
  have := xor_split n (2 ^ n * b + a)
  rwa [Nat.mul_add_mod, Nat.mod_eq_of_lt h, Nat.mul_add_div (Nat.two_pow_pos n), Nat.div_eq_of_lt h, Nat.add_zero] at this
theorem or_xor (n a b : Nat) (h : a < 2 ^ n) : a ||| (2 ^ n * b) = a ^^^ (2 ^ n * b) := by
  rw [xor_join n a b h, Nat.or_comm, ← Nat.two_pow_add_eq_or_of_lt h]
set_option maxRecDepth 100000 in
set_option maxHeartbeats 8000000 in
theorem four_any (b x : Nat) (s : ByteArray) (w : World) (h : TabAt w b 1024) (hx : x < 4294967296) (hs : 4 ≤ s.size) :
    Calls Try.prog 108 #[.pointer (some ⟨b, 0, none⟩), .int .u32 x, .string s] w fun e w' => e = .returned (.int .u32 (crcB (crcB (crcB (crcB x s[0]) s[1]) s[2]) s[3] : Nat)) ∧ Calm w w' := by
  have hs0 : (0 : Int) < s.size := by omega
  have hs1 : (1 : Int) < s.size := by omega
  have hs2 : (2 : Int) < s.size := by omega
  have hs3 : (3 : Int) < s.size := by omega
  have g0 : 0 < s.size := by omega
  have g1 : 1 < s.size := by omega
  have g2 : 2 < s.size := by omega
  have g3 : 3 < s.size := by omega
  have l0 := s[0].toNat_lt
  have l1 := s[1].toNat_lt
  have l2 := s[2].toNat_lt
  have l3 := s[3].toNat_lt
  obtain ⟨p1, hp1⟩ : ∃ p, p = 256 * s[1].toNat := ⟨_, rfl⟩
  obtain ⟨p2, hp2⟩ : ∃ p, p = 65536 * s[2].toNat := ⟨_, rfl⟩
  obtain ⟨p3, hp3⟩ : ∃ p, p = 16777216 * s[3].toNat := ⟨_, rfl⟩
  obtain ⟨q1, hq1⟩ : ∃ q, q = s[0].toNat ^^^ p1 := ⟨_, rfl⟩
  obtain ⟨q2, hq2⟩ : ∃ q, q = q1 ^^^ p2 := ⟨_, rfl⟩
  obtain ⟨q3, hq3⟩ : ∃ q, q = q2 ^^^ p3 := ⟨_, rfl⟩
  obtain ⟨y, hy⟩ : ∃ y, y = x ^^^ q3 := ⟨_, rfl⟩
  have lq1 : q1 < 65536 := by rw [hq1]; exact Nat.xor_lt_two_pow (n := 16) (by omega) (by omega)
  have lq2 : q2 < 16777216 := by rw [hq2]; exact Nat.xor_lt_two_pow (n := 24) (by omega) (by omega)
  have lq3 : q3 < 4294967296 := by rw [hq3]; exact Nat.xor_lt_two_pow (n := 32) (by omega) (by omega)
  have ly : y < 4294967296 := by rw [hy]; exact Nat.xor_lt_two_pow (n := 32) (by omega) (by omega)
  have e0 : IntKind.u32.wrap (s[0].toNat : Int) = s[0].toNat := by rw [IntKind.wrap_u32]; omega
  have e1 : IntKind.u32.wrap (IntKind.u32.wrap (s[1].toNat : Int) * 256) = p1 := by rw [IntKind.wrap_u32, IntKind.wrap_u32]; omega
  have e2 : IntKind.u32.wrap (IntKind.u32.wrap (s[2].toNat : Int) * 65536) = p2 := by rw [IntKind.wrap_u32, IntKind.wrap_u32]; omega
  have e3 : IntKind.u32.wrap (IntKind.u32.wrap (s[3].toNat : Int) * 16777216) = p3 := by rw [IntKind.wrap_u32, IntKind.wrap_u32]; omega
  have o1 : bits .or .u32 (s[0].toNat : Int) (p1 : Int) = q1 := by rw [or32 _ _ (by omega) (by omega), hq1, hp1]; congr 1; exact or_xor 8 _ _ l0
  have o2 : bits .or .u32 (q1 : Int) (p2 : Int) = q2 := by rw [or32 _ _ (by omega) (by omega), hq2, hp2]; congr 1; exact or_xor 16 _ _ lq1
  have o3 : bits .or .u32 (q2 : Int) (p3 : Int) = q3 := by rw [or32 _ _ (by omega) (by omega), hq3, hp3]; congr 1; exact or_xor 24 _ _ lq2
  have o4 : bits .xor .u32 (x : Int) (q3 : Int) = y := by rw [xor32 _ _ hx lq3, hy]
  have hres : crcB (crcB (crcB (crcB x s[0]) s[1]) s[2]) s[3] = steps 32 y := by
    unfold crcB
    rw [four_steps, hy, hq3, hq2, hq1, hp1, hp2, hp3]
  rw [hres, steps32 y ly]
  obtain ⟨u0, hu0⟩ : ∃ u, u = y % 256 := ⟨_, rfl⟩
  obtain ⟨u1, hu1⟩ : ∃ u, u = y / 256 % 256 := ⟨_, rfl⟩
  obtain ⟨u2, hu2⟩ : ∃ u, u = y / 65536 % 256 := ⟨_, rfl⟩
  obtain ⟨u3, hu3⟩ : ∃ u, u = y / 16777216 := ⟨_, rfl⟩
  have m0 : (u0 : Int) < 256 := by omega
  have m1 : (u1 : Int) < 256 := by omega
  have m2 : (u2 : Int) < 256 := by omega
  have m3 : (u3 : Int) < 256 := by omega
  have t3 := tab_cell h (768 + u0) (by omega)
  have t2 := tab_cell h (512 + u1) (by omega)
  have t1 := tab_cell h (256 + u2) (by omega)
  have t0 := tab_cell h u3 (by omega)
  rw [show tabI 1024 (768 + u0) = steps 32 u0 by unfold tabI; rw [if_pos (by omega), show (768 + u0) / 256 = 3 by omega, show (768 + u0) % 256 = u0 by omega]] at t3
  rw [show tabI 1024 (512 + u1) = steps 24 u1 by unfold tabI; rw [if_pos (by omega), show (512 + u1) / 256 = 2 by omega, show (512 + u1) % 256 = u1 by omega]] at t2
  rw [show tabI 1024 (256 + u2) = steps 16 u2 by unfold tabI; rw [if_pos (by omega), show (256 + u2) / 256 = 1 by omega, show (256 + u2) % 256 = u2 by omega]] at t1
  rw [show tabI 1024 u3 = steps 8 u3 by unfold tabI; rw [if_pos (by omega), show u3 / 256 = 0 by omega, show u3 % 256 = u3 by omega]] at t0
  have z3 : steps 32 u0 < 4294967296 := steps_lt _ (by omega)
  have z2 : steps 24 u1 < 4294967296 := steps_lt _ (by omega)
  have z1 : steps 16 u2 < 4294967296 := steps_lt _ (by omega)
  have z0 : steps 8 u3 < 4294967296 := steps_lt _ (by omega)
  rw [← hu0, ← hu1, ← hu2, ← hu3]
  obtain ⟨a3, ha3⟩ : ∃ a, steps 32 u0 = a := ⟨_, rfl⟩
  obtain ⟨a2, ha2⟩ : ∃ a, steps 24 u1 = a := ⟨_, rfl⟩
  obtain ⟨a1, ha1⟩ : ∃ a, steps 16 u2 = a := ⟨_, rfl⟩
  obtain ⟨a0, ha0⟩ : ∃ a, steps 8 u3 = a := ⟨_, rfl⟩
  rw [ha3] at t3 z3
  rw [ha2] at t2 z2
  rw [ha1] at t1 z1
  rw [ha0] at t0 z0
  rw [ha3, ha2, ha1, ha0]
  obtain ⟨r1, hr1⟩ : ∃ r, r = a3 ^^^ a2 := ⟨_, rfl⟩
  obtain ⟨r2, hr2⟩ : ∃ r, r = r1 ^^^ a1 := ⟨_, rfl⟩
  obtain ⟨r3, hr3⟩ : ∃ r, r = r2 ^^^ a0 := ⟨_, rfl⟩
  have lr1 : r1 < 4294967296 := by rw [hr1]; exact Nat.xor_lt_two_pow (n := 32) (by omega) (by omega)
  have lr2 : r2 < 4294967296 := by rw [hr2]; exact Nat.xor_lt_two_pow (n := 32) (by omega) (by omega)
  have x1 : bits .xor .u32 (a3 : Int) (a2 : Int) = r1 := by rw [xor32 _ _ z3 z2, hr1]
  have x2 : bits .xor .u32 (r1 : Int) (a1 : Int) = r2 := by rw [xor32 _ _ lr1 z1, hr2]
  have x3 : bits .xor .u32 (r2 : Int) (a0 : Int) = r3 := by rw [xor32 _ _ lr2 z0, hr3]
  have n0 : bits .and .u32 (y : Int) 255 = u0 := by rw [and255 y ly, hu0]
  have n1 : bits .and .u32 ((y : Int) / 256) 255 = u1 := by rw [← show ((y / 256 : Nat) : Int) = (y : Int) / 256 by omega, and255 _ (by omega), hu1]
  have n2 : bits .and .u32 ((y : Int) / 65536) 255 = u2 := by rw [← show ((y / 65536 : Nat) : Int) = (y : Int) / 65536 by omega, and255 _ (by omega), hu2]
  have n3 : (y : Int) / 16777216 = u3 := by omega
  rw [← hr1, ← hr2, ← hr3]
  have hb := heap_lt h
  clear h hp1 hp2 hp3 hq1 hq2 hq3 hy hres hu0 hu1 hu2 hu3 ha0 ha1 ha2 ha3 hr1 hr2 hr3 l0 l1 l2 l3 lq1 lq2 lq3 z0 z1 z2 z3 lr1 lr2 hx ly
  go_enter Try.func108, Try.ntmps108
  go_wp2_with fail
  refine wp_region_held_drew (S := fun _ => True) (by kernel_rfl) trivial (fun hHeld => ?_)
  ((refine' wpAnyH_take (i := 0) (v := _) rfl (by kernel_rfl) (by kernel_rfl) (by kernel_rfl) (fun _ _ _ h => h) (Or.inl ⟨by rfl, ?hy40⟩) (by assumption) ?rest40; (case hy40 => (intro w hSw; (try dsimp only at hSw); go_simp <;> with_reducible rfl)); simp only [List.getElem_toArray, List.getElem_cons_succ, List.getElem_cons_zero, Act.put, List.setIfInBounds_toArray, List.set_cons_zero, List.set_cons_succ]); (refine' wpAnyH_take (i := 1) (v := _) rfl (by kernel_rfl) (by kernel_rfl) (by kernel_rfl) (fun _ _ _ h => h) (Or.inl ⟨by rfl, ?hy41⟩) (by assumption) ?rest41; (case hy41 => (intro w hSw; (try dsimp only at hSw); go_simp <;> with_reducible rfl)); simp only [List.getElem_toArray, List.getElem_cons_succ, List.getElem_cons_zero, Act.put, List.setIfInBounds_toArray, List.set_cons_zero, List.set_cons_succ]); (refine' wpAnyH_take (i := 2) (v := _) rfl (by kernel_rfl) (by kernel_rfl) (by kernel_rfl) (fun _ _ _ h => h) (Or.inl ⟨by rfl, ?hy42⟩) (by assumption) ?rest42; (case hy42 => (intro w hSw; (try dsimp only at hSw); go_simp <;> with_reducible rfl)); simp only [List.getElem_toArray, List.getElem_cons_succ, List.getElem_cons_zero, Act.put, List.setIfInBounds_toArray, List.set_cons_zero, List.set_cons_succ]); (refine' wpAnyH_take (i := 3) (v := _) rfl (by kernel_rfl) (by kernel_rfl) (by kernel_rfl) (fun _ _ _ h => h) (Or.inl ⟨by rfl, ?hy43⟩) (by assumption) ?rest43; (case hy43 => (intro w hSw; (try dsimp only at hSw); go_simp <;> with_reducible rfl)); simp only [List.getElem_toArray, List.getElem_cons_succ, List.getElem_cons_zero, Act.put, List.setIfInBounds_toArray, List.set_cons_zero, List.set_cons_succ]); (refine' wpAnyH_take (i := 4) (v := _) rfl (by kernel_rfl) (by kernel_rfl) (by kernel_rfl) (fun _ _ _ h => h) (Or.inl ⟨by rfl, ?hy44⟩) (by assumption) ?rest44; (case hy44 => (intro w hSw; (try dsimp only at hSw); go_simp <;> with_reducible rfl)); simp only [List.getElem_toArray, List.getElem_cons_succ, List.getElem_cons_zero, Act.put, List.setIfInBounds_toArray, List.set_cons_zero, List.set_cons_succ]); (refine' wpAnyH_take (i := 5) (v := _) rfl (by kernel_rfl) (by kernel_rfl) (by kernel_rfl) (fun _ _ _ h => h) (Or.inl ⟨by rfl, ?hy45⟩) (by assumption) ?rest45; (case hy45 => (intro w hSw; (try dsimp only at hSw); go_simp <;> with_reducible rfl)); simp only [List.getElem_toArray, List.getElem_cons_succ, List.getElem_cons_zero, Act.put, List.setIfInBounds_toArray, List.set_cons_zero, List.set_cons_succ]); (refine' wpAnyH_take (i := 6) (v := _) rfl (by kernel_rfl) (by kernel_rfl) (by kernel_rfl) (fun _ _ _ h => h) (Or.inl ⟨by rfl, ?hy46⟩) (by assumption) ?rest46; (case hy46 => (intro w hSw; (try dsimp only at hSw); go_simp <;> with_reducible rfl)); simp only [List.getElem_toArray, List.getElem_cons_succ, List.getElem_cons_zero, Act.put, List.setIfInBounds_toArray, List.set_cons_zero, List.set_cons_succ]); (refine' wpAnyH_take (i := 7) (v := _) rfl (by kernel_rfl) (by kernel_rfl) (by kernel_rfl) (fun _ _ _ h => h) (Or.inl ⟨by rfl, ?hy47⟩) (by assumption) ?rest47; (case hy47 => (intro w hSw; (try dsimp only at hSw); go_simp <;> with_reducible rfl)); simp only [List.getElem_toArray, List.getElem_cons_succ, List.getElem_cons_zero, Act.put, List.setIfInBounds_toArray, List.set_cons_zero, List.set_cons_succ]); (refine' wpAnyH_take (i := 8) (v := _) rfl (by kernel_rfl) (by kernel_rfl) (by kernel_rfl) (fun _ _ _ h => h) (Or.inl ⟨by rfl, ?hy48⟩) (by assumption) ?rest48; (case hy48 => (intro w hSw; (try dsimp only at hSw); go_simp <;> with_reducible rfl)); simp only [List.getElem_toArray, List.getElem_cons_succ, List.getElem_cons_zero, Act.put, List.setIfInBounds_toArray, List.set_cons_zero, List.set_cons_succ]); (refine' wpAnyH_take (i := 9) (v := _) rfl (by kernel_rfl) (by kernel_rfl) (by kernel_rfl) (fun _ _ _ h => h) (Or.inl ⟨by rfl, ?hy49⟩) (by assumption) ?rest49; (case hy49 => (intro w hSw; (try dsimp only at hSw); go_simp <;> with_reducible rfl)); simp only [List.getElem_toArray, List.getElem_cons_succ, List.getElem_cons_zero, Act.put, List.setIfInBounds_toArray, List.set_cons_zero, List.set_cons_succ]); (refine' wpAnyH_take (i := 10) (v := _) rfl (by kernel_rfl) (by kernel_rfl) (by kernel_rfl) (fun _ _ _ h => h) (Or.inl ⟨by rfl, ?hy50⟩) (by assumption) ?rest50; (case hy50 => (intro w hSw; (try dsimp only at hSw); go_simp <;> with_reducible rfl)); simp only [List.getElem_toArray, List.getElem_cons_succ, List.getElem_cons_zero, Act.put, List.setIfInBounds_toArray, List.set_cons_zero, List.set_cons_succ]); (refine' wpAnyH_take (i := 11) (v := _) rfl (by kernel_rfl) (by kernel_rfl) (by kernel_rfl) (fun _ _ _ h => h) (Or.inl ⟨by rfl, ?hy51⟩) (by assumption) ?rest51; (case hy51 => (intro w hSw; (try dsimp only at hSw); go_simp <;> with_reducible rfl)); simp only [List.getElem_toArray, List.getElem_cons_succ, List.getElem_cons_zero, Act.put, List.setIfInBounds_toArray, List.set_cons_zero, List.set_cons_succ]); (refine' wpAnyH_take (i := 12) (v := _) rfl (by kernel_rfl) (by kernel_rfl) (by kernel_rfl) (fun _ _ _ h => h) (Or.inl ⟨by rfl, ?hy52⟩) (by assumption) ?rest52; (case hy52 => (intro w hSw; (try dsimp only at hSw); go_simp <;> with_reducible rfl)); simp only [List.getElem_toArray, List.getElem_cons_succ, List.getElem_cons_zero, Act.put, List.setIfInBounds_toArray, List.set_cons_zero, List.set_cons_succ]); (refine' wpAnyH_take (i := 13) (v := _) rfl (by kernel_rfl) (by kernel_rfl) (by kernel_rfl) (fun _ _ _ h => h) (Or.inl ⟨by rfl, ?hy53⟩) (by assumption) ?rest53; (case hy53 => (intro w hSw; (try dsimp only at hSw); go_simp <;> with_reducible rfl)); simp only [List.getElem_toArray, List.getElem_cons_succ, List.getElem_cons_zero, Act.put, List.setIfInBounds_toArray, List.set_cons_zero, List.set_cons_succ]); (refine' wpAnyH_take (i := 14) (v := _) rfl (by kernel_rfl) (by kernel_rfl) (by kernel_rfl) (fun _ _ _ h => h) (Or.inl ⟨by rfl, ?hy54⟩) (by assumption) ?rest54; (case hy54 => (intro w hSw; (try dsimp only at hSw); go_simp <;> with_reducible rfl)); simp only [List.getElem_toArray, List.getElem_cons_succ, List.getElem_cons_zero, Act.put, List.setIfInBounds_toArray, List.set_cons_zero, List.set_cons_succ]); (refine' wpAnyH_take (i := 15) (v := _) rfl (by kernel_rfl) (by kernel_rfl) (by kernel_rfl) (fun _ _ _ h => h) (Or.inl ⟨by rfl, ?hy55⟩) (by assumption) ?rest55; (case hy55 => (intro w hSw; (try dsimp only at hSw); go_simp <;> with_reducible rfl)); simp only [List.getElem_toArray, List.getElem_cons_succ, List.getElem_cons_zero, Act.put, List.setIfInBounds_toArray, List.set_cons_zero, List.set_cons_succ]); (refine' wpAnyH_take (i := 16) (v := _) rfl (by kernel_rfl) (by kernel_rfl) (by kernel_rfl) (fun _ _ _ h => h) (Or.inl ⟨by rfl, ?hy56⟩) (by assumption) ?rest56; (case hy56 => (intro w hSw; (try dsimp only at hSw); go_simp <;> with_reducible rfl)); simp only [List.getElem_toArray, List.getElem_cons_succ, List.getElem_cons_zero, Act.put, List.setIfInBounds_toArray, List.set_cons_zero, List.set_cons_succ]); (refine' wpAnyH_take (i := 17) (v := _) rfl (by kernel_rfl) (by kernel_rfl) (by kernel_rfl) (fun _ _ _ h => h) (Or.inl ⟨by rfl, ?hy57⟩) (by assumption) ?rest57; (case hy57 => (intro w hSw; (try dsimp only at hSw); go_simp <;> with_reducible rfl)); simp only [List.getElem_toArray, List.getElem_cons_succ, List.getElem_cons_zero, Act.put, List.setIfInBounds_toArray, List.set_cons_zero, List.set_cons_succ]); (refine' wpAnyH_take (i := 18) (v := _) rfl (by kernel_rfl) (by kernel_rfl) (by kernel_rfl) (fun _ _ _ h => h) (Or.inl ⟨by rfl, ?hy58⟩) (by assumption) ?rest58; (case hy58 => (intro w hSw; (try dsimp only at hSw); go_simp <;> with_reducible rfl)); simp only [List.getElem_toArray, List.getElem_cons_succ, List.getElem_cons_zero, Act.put, List.setIfInBounds_toArray, List.set_cons_zero, List.set_cons_succ]); (refine' wpAnyH_take (i := 19) (v := _) rfl (by kernel_rfl) (by kernel_rfl) (by kernel_rfl) (fun _ _ _ h => h) (Or.inl ⟨by rfl, ?hy59⟩) (by assumption) ?rest59; (case hy59 => (intro w hSw; (try dsimp only at hSw); go_simp <;> with_reducible rfl)); simp only [List.getElem_toArray, List.getElem_cons_succ, List.getElem_cons_zero, Act.put, List.setIfInBounds_toArray, List.set_cons_zero, List.set_cons_succ]); (refine' wpAnyH_take (i := 20) (v := _) rfl (by kernel_rfl) (by kernel_rfl) (by kernel_rfl) (fun _ _ _ h => h) (Or.inl ⟨by rfl, ?hy60⟩) (by assumption) ?rest60; (case hy60 => (intro w hSw; (try dsimp only at hSw); go_simp <;> with_reducible rfl)); simp only [List.getElem_toArray, List.getElem_cons_succ, List.getElem_cons_zero, Act.put, List.setIfInBounds_toArray, List.set_cons_zero, List.set_cons_succ]))
  refine wpAnyH_done (by kernel_rfl) ?_ _
  go_wp2_with fail
  refine wp_region_held_drew (S := fun w' => w'.cell? ⟨b, 768 + u0, none⟩ = some (.int .u32 (a3 : Nat)) ∧ w'.cell? ⟨b, 512 + u1, none⟩ = some (.int .u32 (a2 : Nat)) ∧ w'.cell? ⟨b, 256 + u2, none⟩ = some (.int .u32 (a1 : Nat)) ∧ w'.cell? ⟨b, u3, none⟩ = some (.int .u32 (a0 : Nat))) (by kernel_rfl) ⟨t3, t2, t1, t0⟩ (fun hHeld2 => ?_)
  ((refine' wpAnyH_take (i := 0) (v := _) rfl (by kernel_rfl) (by kernel_rfl) (by kernel_rfl) (fun _ _ _ h => h) (Or.inl ⟨by rfl, ?hy61⟩) (by assumption) ?rest61; (case hy61 => (intro w hSw; (try dsimp only at hSw); go_simp <;> with_reducible rfl)); simp only [List.getElem_toArray, List.getElem_cons_succ, List.getElem_cons_zero, Act.put, List.setIfInBounds_toArray, List.set_cons_zero, List.set_cons_succ]); (refine' wpAnyH_take (i := 1) (v := _) rfl (by kernel_rfl) (by kernel_rfl) (by kernel_rfl) (fun _ _ _ h => h) (Or.inl ⟨by rfl, ?hy62⟩) (by assumption) ?rest62; (case hy62 => (intro w hSw; (try dsimp only at hSw); go_simp <;> with_reducible rfl)); simp only [List.getElem_toArray, List.getElem_cons_succ, List.getElem_cons_zero, Act.put, List.setIfInBounds_toArray, List.set_cons_zero, List.set_cons_succ]); (refine' wpAnyH_take (i := 2) (v := _) rfl (by kernel_rfl) (by kernel_rfl) (by kernel_rfl) (fun _ _ _ h => h) (Or.inl ⟨by rfl, ?hy63⟩) (by assumption) ?rest63; (case hy63 => (intro w hSw; (try dsimp only at hSw); go_simp <;> with_reducible rfl)); simp only [List.getElem_toArray, List.getElem_cons_succ, List.getElem_cons_zero, Act.put, List.setIfInBounds_toArray, List.set_cons_zero, List.set_cons_succ]); (refine' wpAnyH_take (i := 3) (v := _) rfl (by kernel_rfl) (by kernel_rfl) (by kernel_rfl) (fun _ _ _ h => h) (Or.inl ⟨by rfl, ?hy64⟩) (by assumption) ?rest64; (case hy64 => (intro w hSw; (try dsimp only at hSw); go_simp <;> with_reducible rfl)); simp only [List.getElem_toArray, List.getElem_cons_succ, List.getElem_cons_zero, Act.put, List.setIfInBounds_toArray, List.set_cons_zero, List.set_cons_succ]); (refine' wpAnyH_take (i := 4) (v := _) rfl (by kernel_rfl) (by kernel_rfl) (by kernel_rfl) (fun _ _ _ h => h) (Or.inl ⟨by rfl, ?hy65⟩) (by assumption) ?rest65; (case hy65 => (intro w hSw; (try dsimp only at hSw); go_simp <;> with_reducible rfl)); simp only [List.getElem_toArray, List.getElem_cons_succ, List.getElem_cons_zero, Act.put, List.setIfInBounds_toArray, List.set_cons_zero, List.set_cons_succ]); (refine' wpAnyH_take (i := 5) (v := _) rfl (by kernel_rfl) (by kernel_rfl) (by kernel_rfl) (fun _ _ _ h => h) (Or.inl ⟨by rfl, ?hy66⟩) (by assumption) ?rest66; (case hy66 => (intro w hSw; (try dsimp only at hSw); go_simp <;> with_reducible rfl)); simp only [List.getElem_toArray, List.getElem_cons_succ, List.getElem_cons_zero, Act.put, List.setIfInBounds_toArray, List.set_cons_zero, List.set_cons_succ]); (refine' wpAnyH_take (i := 6) (v := _) rfl (by kernel_rfl) (by kernel_rfl) (by kernel_rfl) (fun _ _ _ h => h) (Or.inl ⟨by rfl, ?hy67⟩) (by assumption) ?rest67; (case hy67 => (intro w hSw; (try dsimp only at hSw); go_simp <;> with_reducible rfl)); simp only [List.getElem_toArray, List.getElem_cons_succ, List.getElem_cons_zero, Act.put, List.setIfInBounds_toArray, List.set_cons_zero, List.set_cons_succ]); (refine' wpAnyH_take (i := 7) (v := _) rfl (by kernel_rfl) (by kernel_rfl) (by kernel_rfl) (fun _ _ _ h => h) (Or.inl ⟨by rfl, ?hy68⟩) (by assumption) ?rest68; (case hy68 => (intro w hSw; (try dsimp only at hSw); go_simp <;> with_reducible rfl)); simp only [List.getElem_toArray, List.getElem_cons_succ, List.getElem_cons_zero, Act.put, List.setIfInBounds_toArray, List.set_cons_zero, List.set_cons_succ]); (refine' wpAnyH_take (i := 8) (v := _) rfl (by kernel_rfl) (by kernel_rfl) (by kernel_rfl) (fun _ _ _ h => h) (Or.inl ⟨by rfl, ?hy69⟩) (by assumption) ?rest69; (case hy69 => (intro w hSw; (try dsimp only at hSw); go_simp <;> with_reducible rfl)); simp only [List.getElem_toArray, List.getElem_cons_succ, List.getElem_cons_zero, Act.put, List.setIfInBounds_toArray, List.set_cons_zero, List.set_cons_succ]); (refine' wpAnyH_take (i := 9) (v := _) rfl (by kernel_rfl) (by kernel_rfl) (by kernel_rfl) (fun _ _ _ h => h) (Or.inl ⟨by rfl, ?hy70⟩) (by assumption) ?rest70; (case hy70 => (intro w hSw; (try dsimp only at hSw); go_simp <;> with_reducible rfl)); simp only [List.getElem_toArray, List.getElem_cons_succ, List.getElem_cons_zero, Act.put, List.setIfInBounds_toArray, List.set_cons_zero, List.set_cons_succ]); (refine' wpAnyH_take (i := 10) (v := _) rfl (by kernel_rfl) (by kernel_rfl) (by kernel_rfl) (fun _ _ _ h => h) (Or.inl ⟨by rfl, ?hy71⟩) (by assumption) ?rest71; (case hy71 => (intro w hSw; (try dsimp only at hSw); go_simp <;> with_reducible rfl)); simp only [List.getElem_toArray, List.getElem_cons_succ, List.getElem_cons_zero, Act.put, List.setIfInBounds_toArray, List.set_cons_zero, List.set_cons_succ]); (refine' wpAnyH_take (i := 11) (v := _) rfl (by kernel_rfl) (by kernel_rfl) (by kernel_rfl) (fun _ _ _ h => h) (Or.inl ⟨by rfl, ?hy72⟩) (by assumption) ?rest72; (case hy72 => (intro w hSw; (try dsimp only at hSw); go_simp <;> with_reducible rfl)); simp only [List.getElem_toArray, List.getElem_cons_succ, List.getElem_cons_zero, Act.put, List.setIfInBounds_toArray, List.set_cons_zero, List.set_cons_succ]); (refine' wpAnyH_take (i := 12) (v := _) rfl (by kernel_rfl) (by kernel_rfl) (by kernel_rfl) (fun _ _ _ h => h) (Or.inl ⟨by rfl, ?hy73⟩) (by assumption) ?rest73; (case hy73 => (intro w hSw; (try dsimp only at hSw); go_simp <;> with_reducible rfl)); simp only [List.getElem_toArray, List.getElem_cons_succ, List.getElem_cons_zero, Act.put, List.setIfInBounds_toArray, List.set_cons_zero, List.set_cons_succ]); (refine' wpAnyH_take (i := 13) (v := _) rfl (by kernel_rfl) (by kernel_rfl) (by kernel_rfl) (fun _ _ _ h => h) (Or.inl ⟨by rfl, ?hy74⟩) (by assumption) ?rest74; (case hy74 => (intro w hSw; (try dsimp only at hSw); go_simp <;> with_reducible rfl)); simp only [List.getElem_toArray, List.getElem_cons_succ, List.getElem_cons_zero, Act.put, List.setIfInBounds_toArray, List.set_cons_zero, List.set_cons_succ]); (refine' wpAnyH_take (i := 14) (v := _) rfl (by kernel_rfl) (by kernel_rfl) (by kernel_rfl) (fun _ _ _ h => h) (Or.inl ⟨by rfl, ?hy75⟩) (by assumption) ?rest75; (case hy75 => (intro w hSw; (try dsimp only at hSw); go_simp <;> with_reducible rfl)); simp only [List.getElem_toArray, List.getElem_cons_succ, List.getElem_cons_zero, Act.put, List.setIfInBounds_toArray, List.set_cons_zero, List.set_cons_succ]); (refine' wpAnyH_take (i := 15) (v := _) rfl (by kernel_rfl) (by kernel_rfl) (by kernel_rfl) (fun _ _ _ h => h) (Or.inl ⟨by rfl, ?hy76⟩) (by assumption) ?rest76; (case hy76 => (intro w hSw; (try dsimp only at hSw); go_simp <;> with_reducible rfl)); simp only [List.getElem_toArray, List.getElem_cons_succ, List.getElem_cons_zero, Act.put, List.setIfInBounds_toArray, List.set_cons_zero, List.set_cons_succ]); (refine' wpAnyH_take (i := 16) (v := _) rfl (by kernel_rfl) (by kernel_rfl) (by kernel_rfl) (fun _ _ _ h => h) (Or.inl ⟨by rfl, ?hy77⟩) (by assumption) ?rest77; (case hy77 => (intro w hSw; (try dsimp only at hSw); go_simp <;> with_reducible rfl)); simp only [List.getElem_toArray, List.getElem_cons_succ, List.getElem_cons_zero, Act.put, List.setIfInBounds_toArray, List.set_cons_zero, List.set_cons_succ]); (refine' wpAnyH_take (i := 17) (v := _) rfl (by kernel_rfl) (by kernel_rfl) (by kernel_rfl) (fun _ _ _ h => h) (Or.inl ⟨by rfl, ?hy78⟩) (by assumption) ?rest78; (case hy78 => (intro w hSw; (try dsimp only at hSw); go_simp <;> with_reducible rfl)); simp only [List.getElem_toArray, List.getElem_cons_succ, List.getElem_cons_zero, Act.put, List.setIfInBounds_toArray, List.set_cons_zero, List.set_cons_succ]); (refine' wpAnyH_take (i := 18) (v := _) rfl (by kernel_rfl) (by kernel_rfl) (by kernel_rfl) (fun _ _ _ h => h) (Or.inl ⟨by rfl, ?hy79⟩) (by assumption) ?rest79; (case hy79 => (intro w hSw; (try dsimp only at hSw); go_simp <;> with_reducible rfl)); simp only [List.getElem_toArray, List.getElem_cons_succ, List.getElem_cons_zero, Act.put, List.setIfInBounds_toArray, List.set_cons_zero, List.set_cons_succ]); (refine' wpAnyH_take (i := 19) (v := _) rfl (by kernel_rfl) (by kernel_rfl) (by kernel_rfl) (fun _ _ _ h => h) (Or.inl ⟨by rfl, ?hy80⟩) (by assumption) ?rest80; (case hy80 => (intro w hSw; (try dsimp only at hSw); go_simp <;> with_reducible rfl)); simp only [List.getElem_toArray, List.getElem_cons_succ, List.getElem_cons_zero, Act.put, List.setIfInBounds_toArray, List.set_cons_zero, List.set_cons_succ]); (refine' wpAnyH_take (i := 20) (v := _) rfl (by kernel_rfl) (by kernel_rfl) (by kernel_rfl) (fun _ _ _ h => h) (Or.inl ⟨by rfl, ?hy81⟩) (by assumption) ?rest81; (case hy81 => (intro w hSw; (try dsimp only at hSw); go_simp <;> with_reducible rfl)); simp only [List.getElem_toArray, List.getElem_cons_succ, List.getElem_cons_zero, Act.put, List.setIfInBounds_toArray, List.set_cons_zero, List.set_cons_succ]); (refine' wpAnyH_take (i := 21) (v := _) rfl (by kernel_rfl) (by kernel_rfl) (by kernel_rfl) (fun _ _ _ h => h) (Or.inl ⟨by rfl, ?hy82⟩) (by assumption) ?rest82; (case hy82 => (intro w hSw; (try dsimp only at hSw); go_simp <;> with_reducible rfl)); simp only [List.getElem_toArray, List.getElem_cons_succ, List.getElem_cons_zero, Act.put, List.setIfInBounds_toArray, List.set_cons_zero, List.set_cons_succ]); (refine' wpAnyH_take (i := 22) (v := _) rfl (by kernel_rfl) (by kernel_rfl) (by kernel_rfl) (fun _ _ _ h => h) (Or.inl ⟨by rfl, ?hy83⟩) (by assumption) ?rest83; (case hy83 => (intro w hSw; (try dsimp only at hSw); go_simp <;> with_reducible rfl)); simp only [List.getElem_toArray, List.getElem_cons_succ, List.getElem_cons_zero, Act.put, List.setIfInBounds_toArray, List.set_cons_zero, List.set_cons_succ]); (refine' wpAnyH_take (i := 23) (v := _) rfl (by kernel_rfl) (by kernel_rfl) (by kernel_rfl) (fun _ _ _ h => h) (Or.inl ⟨by rfl, ?hy84⟩) (by assumption) ?rest84; (case hy84 => (intro w hSw; (try dsimp only at hSw); go_simp <;> with_reducible rfl)); simp only [List.getElem_toArray, List.getElem_cons_succ, List.getElem_cons_zero, Act.put, List.setIfInBounds_toArray, List.set_cons_zero, List.set_cons_succ]); (refine' wpAnyH_take (i := 24) (v := _) rfl (by kernel_rfl) (by kernel_rfl) (by kernel_rfl) (fun _ _ _ h => h) (Or.inl ⟨by rfl, ?hy85⟩) (by assumption) ?rest85; (case hy85 => (intro w hSw; (try dsimp only at hSw); go_simp <;> with_reducible rfl)); simp only [List.getElem_toArray, List.getElem_cons_succ, List.getElem_cons_zero, Act.put, List.setIfInBounds_toArray, List.set_cons_zero, List.set_cons_succ]); (refine' wpAnyH_take (i := 25) (v := _) rfl (by kernel_rfl) (by kernel_rfl) (by kernel_rfl) (fun _ _ _ h => h) (Or.inl ⟨by rfl, ?hy86⟩) (by assumption) ?rest86; (case hy86 => (intro w hSw; (try dsimp only at hSw); go_simp <;> with_reducible rfl)); simp only [List.getElem_toArray, List.getElem_cons_succ, List.getElem_cons_zero, Act.put, List.setIfInBounds_toArray, List.set_cons_zero, List.set_cons_succ]); (refine' wpAnyH_take (i := 26) (v := _) rfl (by kernel_rfl) (by kernel_rfl) (by kernel_rfl) (fun _ _ _ h => h) (Or.inl ⟨by rfl, ?hy87⟩) (by assumption) ?rest87; (case hy87 => (intro w hSw; (try dsimp only at hSw); go_simp <;> with_reducible rfl)); simp only [List.getElem_toArray, List.getElem_cons_succ, List.getElem_cons_zero, Act.put, List.setIfInBounds_toArray, List.set_cons_zero, List.set_cons_succ]); (refine' wpAnyH_take (i := 27) (v := _) rfl (by kernel_rfl) (by kernel_rfl) (by kernel_rfl) (fun _ _ _ h => h) (Or.inl ⟨by rfl, ?hy88⟩) (by assumption) ?rest88; (case hy88 => (intro w hSw; (try dsimp only at hSw); go_simp <;> with_reducible rfl)); simp only [List.getElem_toArray, List.getElem_cons_succ, List.getElem_cons_zero, Act.put, List.setIfInBounds_toArray, List.set_cons_zero, List.set_cons_succ]); (refine' wpAnyH_take (i := 28) (v := _) rfl (by kernel_rfl) (by kernel_rfl) (by kernel_rfl) (fun _ _ _ h => h) (Or.inl ⟨by rfl, ?hy89⟩) (by assumption) ?rest89; (case hy89 => (intro w hSw; (try dsimp only at hSw); go_simp <;> with_reducible rfl)); simp only [List.getElem_toArray, List.getElem_cons_succ, List.getElem_cons_zero, Act.put, List.setIfInBounds_toArray, List.set_cons_zero, List.set_cons_succ]); (refine' wpAnyH_take (i := 29) (v := _) rfl (by kernel_rfl) (by kernel_rfl) (by kernel_rfl) (fun _ _ _ h => h) (Or.inl ⟨by rfl, ?hy90⟩) (by assumption) ?rest90; (case hy90 => (intro w hSw; (try dsimp only at hSw); go_simp <;> with_reducible rfl)); simp only [List.getElem_toArray, List.getElem_cons_succ, List.getElem_cons_zero, Act.put, List.setIfInBounds_toArray, List.set_cons_zero, List.set_cons_succ]); (refine' wpAnyH_take (i := 30) (v := _) rfl (by kernel_rfl) (by kernel_rfl) (by kernel_rfl) (fun _ _ _ h => h) (Or.inl ⟨by rfl, ?hy91⟩) (by assumption) ?rest91; (case hy91 => (intro w hSw; (try dsimp only at hSw); go_simp <;> with_reducible rfl)); simp only [List.getElem_toArray, List.getElem_cons_succ, List.getElem_cons_zero, Act.put, List.setIfInBounds_toArray, List.set_cons_zero, List.set_cons_succ]); (refine' wpAnyH_take (i := 31) (v := _) rfl (by kernel_rfl) (by kernel_rfl) (by kernel_rfl) (fun _ _ _ h => h) (Or.inl ⟨by rfl, ?hy92⟩) (by assumption) ?rest92; (case hy92 => (intro w hSw; (try dsimp only at hSw); go_simp <;> with_reducible rfl)); simp only [List.getElem_toArray, List.getElem_cons_succ, List.getElem_cons_zero, Act.put, List.setIfInBounds_toArray, List.set_cons_zero, List.set_cons_succ]); (refine' wpAnyH_take (i := 32) (v := _) rfl (by kernel_rfl) (by kernel_rfl) (by kernel_rfl) (fun _ _ _ h => h) (Or.inl ⟨by rfl, ?hy93⟩) (by assumption) ?rest93; (case hy93 => (intro w hSw; (try dsimp only at hSw); go_simp <;> with_reducible rfl)); simp only [List.getElem_toArray, List.getElem_cons_succ, List.getElem_cons_zero, Act.put, List.setIfInBounds_toArray, List.set_cons_zero, List.set_cons_succ]); (refine' wpAnyH_take (i := 33) (v := _) rfl (by kernel_rfl) (by kernel_rfl) (by kernel_rfl) (fun _ _ _ h => h) (Or.inl ⟨by rfl, ?hy94⟩) (by assumption) ?rest94; (case hy94 => (intro w hSw; (try dsimp only at hSw); go_simp <;> with_reducible rfl)); simp only [List.getElem_toArray, List.getElem_cons_succ, List.getElem_cons_zero, Act.put, List.setIfInBounds_toArray, List.set_cons_zero, List.set_cons_succ]))
  refine wpAnyH_done (by kernel_rfl) ?_ _
  go_wp2_with fail
  go_ret
  exact ⟨rfl, (Calm.refl w).drewN 2⟩
/-- A sum's four bytes. -/
abbrev wordA (n : Nat) : Array Value := #[.int .u8 ((n : Int) / 16777216), .int .u8 ((n : Int) / 65536 % 256), .int .u8 ((n : Int) / 256 % 256), .int .u8 ((n : Int) % 256)]
set_option maxRecDepth 100000 in
set_option maxHeartbeats 4000000 in
theorem word_any (n : Nat) (w : World) (hn : n < 4294967296) : Calls Try.prog 75 #[.int .i64 n] w fun e w' => e = .returned (.agg (wordA n)) ∧ Calm w w' := by
  have Hn := box (heap_new w (.cells (wordA n) 104))
  have Hc := box ((Calm.refl w).alloc (.cells (wordA n) 104))
  go_enter Try.func75, Try.ntmps75
  go_wp2_with fail
  refine bodyPost_ret (results_cell_row rfl _ _ w.heap.size _ _ _ _ rfl Hn.out Try.underlying104 rfl (by kernel_rfl)) rfl ?_
  exact ⟨rfl, Hc.out⟩
end Go.Proofs.Ytofffmnkoelifaa.cr

/- Layer 2: texts' sum; sealed texts. -/
namespace Go.Proofs.Ytofffmnkoelifaa.cr
open Go.ChangeShapes Go.WideShapes Go.ChangeAt Go.RowKit
open Go.Proofs.Ytofffmnkoelifaa.oc Go.Proofs.Ytofffmnkoelifaa.rc

/-- A text value's size. -/
def strLen : Value → Nat
  | .string s => s.size
  | _ => 0
/-- On by a text's bytes. -/
def foldS (x : Nat) (s : ByteArray) : Nat := s.data.toList.foldl crcB x
theorem foldS_lt {x : Nat} (h : x < 4294967296) (s : ByteArray) : foldS x s < 4294967296 := fold_lt _ h
theorem four_cut (s : ByteArray) (h : 4 ≤ s.size) : s.data.toList = s[0] :: s[1] :: s[2] :: s[3] :: (s.extract 4 s.size).data.toList := by
  have e : (s.extract 4 s.size).data.toList = s.data.toList.drop 4 := by
    simp only [ByteArray.data_extract, Array.toList_extract, List.extract_eq_take_drop]
    exact List.take_of_length_le (by rw [List.length_drop, size_toList]; exact Nat.le_refl _)
  rw [e]
  apply List.ext_getElem?
  intro i
  have g : ∀ k (hk : k < s.size), s.data.toList[k]? = some s[k] := fun k hk => by
    rw [List.getElem?_eq_getElem (by rw [size_toList]; exact hk)]; rfl
  match i with
  | 0 => rw [g 0 (by omega)]; rfl
  | 1 => rw [g 1 (by omega)]; rfl
  | 2 => rw [g 2 (by omega)]; rfl
  | 3 => rw [g 3 (by omega)]; rfl
  | i + 4 => simp [List.getElem?_drop, Nat.add_comm]
theorem foldS_four (x : Nat) (s : ByteArray) (h : 4 ≤ s.size) : foldS x s = foldS (crcB (crcB (crcB (crcB x s[0]) s[1]) s[2]) s[3]) (s.extract 4 s.size) := by
  unfold foldS
  rw [four_cut s h]; rfl
theorem drop_one (s : ByteArray) (k : Nat) (h : k < s.size) : s.data.toList.drop k = s[k] :: s.data.toList.drop (k + 1) := by
  rw [List.drop_eq_getElem_cons (by rw [size_toList]; exact h)]; rfl
/-- Texts' sum. -/
def crcL (l : List ByteArray) : Nat := 4294967295 ^^^ l.foldl foldS 4294967295
theorem crcL_one (s : ByteArray) : crcL [s] = crcN s.data.toList := rfl
theorem crcL_lt (l : List ByteArray) : crcL l < 4294967296 := by
  have : ∀ (l : List ByteArray) {x : Nat}, x < 4294967296 → l.foldl foldS x < 4294967296 := by
    intro l
    induction l with
    | nil => exact fun h => h
    | cons s l ih => exact fun h => ih (foldS_lt h s)
  exact Nat.xor_lt_two_pow (n := 32) (by decide) (this l (by decide))
set_option maxRecDepth 100000 in
set_option maxHeartbeats 8000000 in
theorem Sum_any (b : Nat) (v : Value) (l : List ByteArray) (w : World) (h : TabAt w b 1024) (hv : StrsAt w v l) (hl : l.length ≤ 1000000) (hs : ∀ s ∈ l, s.size ≤ 140737488355328) :
    Calls Try.prog 76 #[.pointer (some ⟨b, 0, none⟩), v] w fun e w' => e = .returned (.int .i64 (crcL l)) ∧ Calm w w' := by
  obtain ⟨a, cap, rfl, hcells⟩ := hv.uni
  have H := box hcells
  have Hs := box hs
  have HT := box (fun W (hW : Calm w W) => (show TabAt W b 1024 from heap_calm hW h))
  obtain ⟨fin, hfin⟩ : ∃ y, l.foldl foldS 4294967295 = y := ⟨_, rfl⟩
  have hr := box (show crcL l = 4294967295 ^^^ fin by unfold crcL; rw [hfin])
  have Hfin := box hfin
  rw [hr.out]
  obtain ⟨z, hz⟩ : ∃ z, 4294967295 ^^^ fin = z := ⟨_, rfl⟩
  rw [hz]
  have Hz := box hz
  clear hz
  clear h hv hcells hs hfin hr
  go_enter Try.func76, Try.ntmps76
  go_wp2_with fail
  go_loopw [5, 13] (fun x i wr => ∃ k y : Nat, k ≤ l.length ∧ y < 4294967296 ∧ x = .int .u32 y ∧ i = .int .i64 k ∧ (l.drop k).foldl foldS y = fin ∧ Calm w wr) (fun _ i _ => l.length - (intOf i).toNat)
  case atStart => exact ⟨0, 4294967295, Nat.zero_le _, by decide, rfl, rfl, Hfin.out, Calm.refl w⟩
  case round =>
    clear Hfin
    obtain ⟨k, y, hk, hy, rfl, rfl, hf, hC⟩ := hrel
    have HF := box hf
    have HC := box hC
    clear hf hC
    by_cases hlt : k < l.length
    · obtain ⟨b2, off, rfl, hb, hcell0⟩ := H.out k hlt
      have hcell := (HC.out.cell (p := ⟨b2, off + k, none⟩) hb).trans hcell0
      have hblt := Nat.lt_of_lt_of_le hb HC.out.size
      rw [List.getD_eq_getElem?_getD, List.getElem?_eq_getElem hlt] at hcell
      simp only [Option.getD_some] at hcell
      have hsz := Hs.out l[k] (List.getElem_mem hlt)
      have HF := box (show (l.drop (k + 1)).foldl foldS (foldS y l[k]) = fin by rw [← HF.out, List.drop_eq_getElem_cons hlt]; rfl)
      obtain ⟨s, hss⟩ : ∃ s, l[k] = s := ⟨_, rfl⟩
      rw [hss] at hcell hsz HF
      clear hss hcell0
      obtain ⟨f2, hf2⟩ : ∃ f, foldS y s = f := ⟨_, rfl⟩
      rw [hf2] at HF
      have Hf2 := box hf2
      have Hy := box hy
      clear hf2 hy
      obtain ⟨wo, hwo⟩ : ∃ wo : World, wo = wr := ⟨_, rfl⟩
      subst hwo
      go_wp2_with fail
      go_loopw [5, 7] (fun x t wr => ∃ (y : Nat) (u : ByteArray), y < 4294967296 ∧ x = .int .u32 y ∧ t = .string u ∧ foldS y u = f2 ∧ u.size ≤ 140737488355328 ∧ Calm w wr) (fun _ t _ => strLen t)
      case atStart => exact ⟨y, s, Hy.out, rfl, rfl, Hf2.out, hsz, HC.out⟩
      case round =>
        clear Hy Hf2 HC
        obtain ⟨y, u, hy, rfl, rfl, hf2, husz, hC⟩ := hrel
        have Hf2 := box hf2
        have HC := box hC
        clear hf2 hC
        by_cases h4 : 4 ≤ u.size
        · have hfour := box (fun W hW => four_any b y u W (HT.out W hW) hy h4)
          have hz4 : (u.extract 4 u.size).size = u.size - 4 := by simp
          have Hf2 := box ((foldS_four y u h4).symm.trans Hf2.out)
          have hlt' := crcB_lt (crcB_lt (crcB_lt (crcB_lt hy u[0]) u[1]) u[2]) u[3]
          obtain ⟨y', hy'⟩ : ∃ y', crcB (crcB (crcB (crcB y u[0]) u[1]) u[2]) u[3] = y' := ⟨_, rfl⟩
          rw [hy'] at hfour hlt' Hf2
          have Hlt' := box hlt'
          clear hy' hlt'
          go_wp2_with fail
          refine (hfour.out _ HC.out).mono ?_
          rintro e w2 ⟨rfl, hc2⟩
          have HC2 := box (HC.out.trans hc2)
          clear hc2
          go_wp2_with fail
          go_roundw
          case rel => exact ⟨y', u.extract 4 u.size, Hlt'.out, rfl, rfl, Hf2.out, by omega, HC2.out⟩
          case measure => simp [strLen]; omega
        · have Hy := box hy
          clear hy
          obtain ⟨wo, hwo⟩ : ∃ wo : World, wo = wr := ⟨_, rfl⟩
          subst hwo
          go_wp2_with fail
          go_loopw [5, 30] (fun x i wr => ∃ (y j : Nat), y < 4294967296 ∧ j ≤ u.size ∧ x = .int .u32 y ∧ i = .int .i64 j ∧ (u.data.toList.drop j).foldl crcB y = f2 ∧ Calm w wr) (fun _ i _ => u.size - (intOf i).toNat)
          case atStart => exact ⟨y, 0, Hy.out, Nat.zero_le _, rfl, rfl, Hf2.out, HC.out⟩
          case round =>
            clear Hy Hf2 HC
            obtain ⟨y, j, hy, hj, rfl, rfl, hf2, hC⟩ := hrel
            have HC := box hC
            clear hC
            by_cases hjlt : j < u.size
            · have hone := box (fun W hW => one_any b y u[j] W (HT.out W hW) hy)
              have Hf2 := box (show (u.data.toList.drop (j + 1)).foldl crcB (crcB y u[j]) = f2 by rw [← hf2, drop_one u j hjlt]; rfl)
              have hlt' := crcB_lt hy u[j]
              obtain ⟨y', hy'⟩ : ∃ y', crcB y u[j] = y' := ⟨_, rfl⟩
              rw [hy'] at hone hlt' Hf2
              have Hlt' := box hlt'
              clear hy' hlt' hf2
              have hjI : (j : Int) < u.size := by omega
              go_wp2_with fail
              go_region_held3 (fun _ => True) (trivial) ((go_at_call 109; refine (hone.out _ (by have := HC.out; (repeat' (first | (with_reducible exact Calm.refl _) | (with_reducible assumption) | (with_reducible refine Calm.drew ?_) | (with_reducible refine Calm.alloc ?_ _) | (with_reducible refine Calm.trans ?_ (by assumption)))))).mono ?_; rintro e w' ⟨rfl, rfl⟩))
              go_wp2_with fail
              go_roundw
              case rel => exact ⟨y', j + 1, Hlt'.out, by omega, rfl, by go_num, Hf2.out, by have := HC.out; (repeat' (first | (with_reducible exact Calm.refl _) | (with_reducible assumption) | (with_reducible refine Calm.drew ?_) | (with_reducible refine Calm.alloc ?_ _) | (with_reducible refine Calm.trans ?_ (by assumption))))⟩
              case measure => simp [intOf]; omega
            · obtain rfl : j = u.size := by omega
              have hfe : y = f2 := by rw [← hf2, List.drop_of_length_le (by rw [size_toList]; exact Nat.le_refl _)]; rfl
              subst hfe
              have Hy := box hy
              clear hf2 hy
              go_wp2_with fail
              go_roundw
              case rel => exact ⟨k + 1, y, by omega, Hy.out, rfl, by go_num, HF.out, HC.out⟩
              case measure => simp [intOf]; omega
    · obtain rfl : k = l.length := by omega
      have hfe : y = fin := by rw [← HF.out, List.drop_of_length_le (Nat.le_refl _)]; rfl
      subst hfe
      have hz := Hz.out
      have hx : bits .xor .u32 IntKind.u32.max (y : Int) = ((4294967295 ^^^ y : Nat) : Int) := xor32 4294967295 y (by decide) hy
      have hlt' : 4294967295 ^^^ y < 4294967296 := Nat.xor_lt_two_pow (n := 32) (by decide) hy
      rw [hz] at hx hlt'
      clear hz HF hy
      go_wp2_with fail
      have hw : wrap64 (z : Int) = z := by unfold wrap64; omega
      rw [hw]
      go_ret
      exact ⟨rfl, HC.out⟩
end Go.Proofs.Ytofffmnkoelifaa.cr

/- Layer 2: sealed texts. -/
namespace Go.Proofs.Ytofffmnkoelifaa.cr
open Go.ChangeShapes Go.WideShapes Go.ChangeAt Go.RowKit
open Go.Proofs.Ytofffmnkoelifaa.oc Go.Proofs.Ytofffmnkoelifaa.rc

theorem low4 (n : Nat) : low 4 n = [UInt8.ofNat (n / 16777216), UInt8.ofNat (n / 65536), UInt8.ofNat (n / 256), UInt8.ofNat n] := by
  simp [low]
theorem word_buf {w : World} {g : Nat} {n : Nat} (hn : n < 4294967296) (h : w.heap[g]? = some (.cells (wordA n) 104 (0, 0))) : BufIs w g 4 (low 4 n) := by
  refine ⟨fun j hj => ?_, fun j hj => ?_, fun j hj => free_of h j, by rw [low_length]; exact Nat.le_refl _, heap_lt h⟩
  · rw [low_length] at hj
    rw [cell_of h j, low4]
    match j, hj with
    | 0, _ => show some _ = some (Value.int .u8 ((UInt8.ofNat (n / 16777216)).toNat : Int)); rw [u8_ofNat]; exact congrArg some (val_int (by omega))
    | 1, _ => show some _ = some (Value.int .u8 ((UInt8.ofNat (n / 65536)).toNat : Int)); rw [u8_ofNat]; exact congrArg some (val_int (by omega))
    | 2, _ => show some _ = some (Value.int .u8 ((UInt8.ofNat (n / 256)).toNat : Int)); rw [u8_ofNat]; exact congrArg some (val_int (by omega))
    | 3, _ => show some _ = some (Value.int .u8 ((UInt8.ofNat n).toNat : Int)); rw [u8_ofNat]; exact congrArg some (val_int (by omega))
  · rw [cell_of h j]
    match j, hj with
    | 0, _ => rfl
    | 1, _ => rfl
    | 2, _ => rfl
    | 3, _ => rfl
set_option maxRecDepth 100000 in
set_option maxHeartbeats 4000000 in
theorem Seal_any (b : Nat) (s : ByteArray) (w : World) (h : TabAt w b 1024) (hs : s.size ≤ 1000000) :
    Calls Try.prog 50 #[.pointer (some ⟨b, 0, none⟩), .string s] w fun e w' => e = .returned (.string ⟨(sealL s.data.toList).toArray⟩) ∧ Calm w w' := by
  have hc0 := (Calm.refl w).alloc (.cells #[.string s] 9)
  have hsum := box (Sum_any b (.slice (some ⟨w.heap.size, 0, none⟩) 1 1) [s] (w.alloc (.cells #[.string s] 9)) (heap_calm hc0 h) (StrsAt.one (by rw [cell_of (heap_new w _)]; rfl)) (by simp) (fun t ht => by rw [List.mem_singleton] at ht; subst ht; omega))
  rw [crcL_one] at hsum
  have hlt := crcN_lt s.data.toList
  have hcat := box (show (⟨(low 4 (crcN s.data.toList)).toArray⟩ : ByteArray) ++ s = ⟨(sealL s.data.toList).toArray⟩ from ba_ext (by rw [append_toList]; rfl))
  have C0 := box hc0
  obtain ⟨n, hn⟩ : ∃ n, crcN s.data.toList = n := ⟨_, rfl⟩
  rw [hn] at hsum hlt hcat
  have hword := box (fun W => word_any n W hlt)
  have Hlt := box hlt
  have hsz : (⟨(low 4 n).toArray⟩ : ByteArray).size = 4 := low_size 4 n
  rw [← hcat.out]
  obtain ⟨u, hu⟩ : ∃ u : ByteArray, ⟨(low 4 n).toArray⟩ = u := ⟨_, rfl⟩
  have Hu := box hu
  rw [hu] at hsz ⊢
  clear hn h hcat hlt hc0 hu
  go_enter Try.func50, Try.ntmps50
  go_wp2_with fail
  refine hsum.out.mono ?_
  rintro e w1 ⟨rfl, hc1⟩
  have C1 := box (C0.out.trans hc1)
  clear hc1
  go_wp2_with fail
  refine (hword.out _).mono ?_
  rintro e w2 ⟨rfl, hc2⟩
  have C2 := box (C1.out.trans hc2)
  clear hc2
  have Hn := box (heap_new w2 (.cells (wordA n) 104))
  have hconv := conv_string (P := Try.prog) (w2.alloc (.cells (wordA n) 104)) 55 9 5 Try.underlying55 Try.underlying5 Try.underlying9 (word_buf Hlt.out Hn.out) 4
  rw [low_length, Hu.out] at hconv
  go_wp2_with fail
  go_ret
  exact ⟨rfl, C2.out.alloc _⟩
end Go.Proofs.Ytofffmnkoelifaa.cr

/- Layer 6: a record's bytes. -/
namespace Go.Proofs.Ytofffmnkoelifaa.rc
open Go.ChangeShapes Go.WideShapes Go.ChangeAt Go.RowKit Go.Shelf
open Go.Proofs.Ytofffmnkoelifaa.nm Go.Proofs.Ytofffmnkoelifaa.vs Go.Proofs.Ytofffmnkoelifaa.oc Go.Proofs.Ytofffmnkoelifaa.cr

theorem Right_all (m : MsgS) (kv : Value) (w : World) (hk : StrsAt w kv m.keys) (hs : ∀ s ∈ m.keys, s.size ≤ maxLen) (hl : m.keys.length ≤ 1000000) (hz : m.body.size ≤ 140737488355328) :
    Calls Try.prog 41 #[.agg (msgA m kv)] w fun e w' => e = .returned (.bool (decide (RightP m))) ∧ Calm w w' := by
  by_cases h3 : m.kind = 1 ∨ m.kind = 2 ∨ m.kind = 3
  · rw [decide_eq_decide.2 (RightP.of3 h3)]
    exact Right3_any m kv w hk hs h3
  · exact Right_other m kv w hk hl hz (by omega)
set_option maxRecDepth 100000 in
set_option maxHeartbeats 4000000 in
theorem Put_any (b : Nat) (m : MsgS) (kv : Value) (w : World) (ht : TabAt w b 1024) (hk : StrsAt w kv m.keys) (hs : ∀ s ∈ m.keys, s.size ≤ maxLen) (hl : m.keys.length ≤ 1000000) (hz : m.body.size ≤ 140737488355328) :
    Calls Try.prog 25 #[.pointer (some ⟨b, 0, none⟩), .agg (msgA m kv)] w fun e w' => e = .returned (.tuple #[.string (putS RightP m).1, .int .i64 (putS RightP m).2]) ∧ Calm w w' := by
  have hright := box (fun W (hW : Calm w W) => Right_all m kv W (hk.calm hW) hs hl hz)
  have hseal := box (fun W (hW : Calm w W) (s : ByteArray) (hs : s.size ≤ 1000000) => Seal_any b s W (heap_calm hW ht) hs)
  have hin := box (fun W (hW : Calm w W) (F : Fits m) => inside_any m kv W (hk.calm hW) F)
  have hput : putS RightP m = if ¬ RightP m then (⟨#[]⟩, 1) else if m.kind = 0 then (if 3 ≤ m.body.size ∧ m.body.size ≤ 1024 then (fillB m.body.size, 0) else (⟨#[]⟩, 1)) else (recB m, 0) := rfl
  have hfit := box (fun (h : RightP m) (hk : m.kind ≠ 0) => right_fits m h hk)
  obtain ⟨W1, hW1⟩ : ∃ W1, w.alloc (.cells (msgA m kv) 33) = W1 := ⟨_, rfl⟩
  have Hn := box (show W1.heap[w.heap.size]? = some (.cells (msgA m kv) 33 (0, 0)) by rw [← hW1]; exact heap_new w _)
  have H0 := box (show Calm w W1 by rw [← hW1]; exact (Calm.refl w).alloc _)
  obtain ⟨kd, q, du, rt, rf, bn, tp, tg, bd, ks⟩ := m
  simp only at hz
  clear hk hs hl ht
  have c0 := cell_of Hn.out 0
  have c1 := cell_of Hn.out 1
  have c2 := cell_of Hn.out 2
  have c3 := cell_of Hn.out 3
  have c4 := cell_of Hn.out 4
  have c5 := cell_of Hn.out 5
  have c6 := cell_of Hn.out 6
  have c7 := cell_of Hn.out 7
  have c8 := cell_of Hn.out 8
  have c9 := cell_of Hn.out 9
  have hlt := heap_lt Hn.out
  by_cases hR : RightP ⟨kd, q, du, rt, rf, bn, tp, tg, bd, ks⟩
  · rw [if_neg (fun h => h hR)] at hput
    rw [decide_eq_true hR] at hright
    have HR := box hR
    clear hR
    by_cases hk0 : kd = 0
    · rw [if_pos hk0] at hput
      subst hk0
      have hfill := box (fun W => Fill_any (bd.size : Int) W)
      by_cases hsz : 3 ≤ bd.size ∧ bd.size ≤ 1024
      · rw [if_pos hsz] at hput
        rw [if_pos (by omega), Int.toNat_natCast] at hfill
        rw [hput]
        obtain ⟨s, hs⟩ : ∃ s, fillB bd.size = s := ⟨_, rfl⟩
        rw [hs] at hfill ⊢
        clear hput hs hsz
        go_enter Try.func25, Try.ntmps25
        go_wp2_with fail
        clear hW1
        refine (hright.out _ H0.out).mono ?_
        rintro e w2 ⟨rfl, hc2⟩
        have J2 := box (heap_calm hc2 Hn.out)
        have C2 := box (H0.out.trans hc2)
        clear hc2 c0 c1 c2 c3 c4 c5 c6 c7 c8 c9 hlt
        have c0 := cell_of J2.out 0
        have c1 := cell_of J2.out 1
        have c2 := cell_of J2.out 2
        have c3 := cell_of J2.out 3
        have c4 := cell_of J2.out 4
        have c5 := cell_of J2.out 5
        have c6 := cell_of J2.out 6
        have c7 := cell_of J2.out 7
        have c8 := cell_of J2.out 8
        have c9 := cell_of J2.out 9
        have hlt := heap_lt J2.out
        go_wp2_with fail
        refine (hfill.out _).mono ?_
        rintro e w3 ⟨rfl, hc3⟩
        have C3 := box (C2.out.trans hc3)
        clear hc3
        go_wp2_with fail
        go_ret2
        exact ⟨rfl, C3.out⟩
      · rw [if_neg hsz] at hput
        rw [if_neg (by omega)] at hfill
        rw [hput]
        clear hput hsz
        go_enter Try.func25, Try.ntmps25
        go_wp2_with fail
        clear hW1
        refine (hright.out _ H0.out).mono ?_
        rintro e w2 ⟨rfl, hc2⟩
        have J2 := box (heap_calm hc2 Hn.out)
        have C2 := box (H0.out.trans hc2)
        clear hc2 c0 c1 c2 c3 c4 c5 c6 c7 c8 c9 hlt
        have c0 := cell_of J2.out 0
        have c1 := cell_of J2.out 1
        have c2 := cell_of J2.out 2
        have c3 := cell_of J2.out 3
        have c4 := cell_of J2.out 4
        have c5 := cell_of J2.out 5
        have c6 := cell_of J2.out 6
        have c7 := cell_of J2.out 7
        have c8 := cell_of J2.out 8
        have c9 := cell_of J2.out 9
        have hlt := heap_lt J2.out
        go_wp2_with fail
        refine (hfill.out _).mono ?_
        rintro e w3 ⟨rfl, hc3⟩
        have C3 := box (C2.out.trans hc3)
        clear hc3
        go_wp2_with fail
        go_ret2
        exact ⟨rfl, C3.out⟩
    · rw [if_neg hk0] at hput
      have F := hfit.out HR.out hk0
      have hil := inside_length F
      have hsl := seal_length (insideL ⟨kd, q, du, rt, rf, bn, tp, tg, bd, ks⟩)
      have hin := box (fun W hW => hin.out W hW F)
      obtain ⟨u, hu⟩ : ∃ u : ByteArray, ⟨(insideL ⟨kd, q, du, rt, rf, bn, tp, tg, bd, ks⟩).toArray⟩ = u := ⟨_, rfl⟩
      have hul : u.data.toList = insideL ⟨kd, q, du, rt, rf, bn, tp, tg, bd, ks⟩ := by rw [← hu]
      have husz : u.size ≤ 1000000 := by rw [← size_toList, hul]; omega
      have hseal := box (fun W hW => hseal.out W hW u husz)
      rw [hul] at hseal
      rw [hu] at hin
      have hnum := box (fun W => num1 2 (3 + (sealL (insideL ⟨kd, q, du, rt, rf, bn, tp, tg, bd, ks⟩)).length) (by decide) (by decide) (by show _ < 65536; omega) W (by omega))
      have hcat := box (show (⟨#[165]⟩ : ByteArray) ++ ⟨(low 2 (3 + (sealL (insideL ⟨kd, q, du, rt, rf, bn, tp, tg, bd, ks⟩)).length)).toArray⟩ ++ ⟨(sealL (insideL ⟨kd, q, du, rt, rf, bn, tp, tg, bd, ks⟩)).toArray⟩ = recB ⟨kd, q, du, rt, rf, bn, tp, tg, bd, ks⟩ from ba_ext (by rw [append_toList, append_toList]; unfold recB; simp))
      have hvl : (⟨(sealL (insideL ⟨kd, q, du, rt, rf, bn, tp, tg, bd, ks⟩)).toArray⟩ : ByteArray).size = (sealL (insideL ⟨kd, q, du, rt, rf, bn, tp, tg, bd, ks⟩)).length := by show (_ : List UInt8).toArray.size = _; simp
      rw [← hvl] at hnum hcat
      have hvs : (⟨(sealL (insideL ⟨kd, q, du, rt, rf, bn, tp, tg, bd, ks⟩)).toArray⟩ : ByteArray).size ≤ 400 := by rw [hvl]; omega
      obtain ⟨v, hv⟩ : ∃ u : ByteArray, ⟨(sealL (insideL ⟨kd, q, du, rt, rf, bn, tp, tg, bd, ks⟩)).toArray⟩ = u := ⟨_, rfl⟩
      rw [hv] at hnum hcat hseal hvs
      have z1 : (⟨(low 2 (3 + v.size)).toArray⟩ : ByteArray).size = 2 := low_size 2 _
      obtain ⟨t, ht⟩ : ∃ u : ByteArray, ⟨(low 2 (3 + v.size)).toArray⟩ = u := ⟨_, rfl⟩
      rw [ht] at hnum hcat z1
      have hnum := box (fun W => (show Calls Try.prog 52 #[.int .i64 2, .slice (some ⟨W.heap.size, 0, none⟩) 1 1] (W.alloc (.cells #[.int .i64 (3 + (v.size : Int))] 3)) fun e w' => e = .returned (.tuple #[.string t, .int .i64 0]) ∧ Calm W w' from hnum.out W))
      rw [hput, ← hcat.out]
      have e0 : (kd == 0) = false := beq_eq_false_iff_ne.2 hk0
      clear hput hu hul husz hcat hvl hv ht hil hsl F hfit hk0
      go_enter Try.func25, Try.ntmps25
      go_wp2_with fail
      clear hW1
      refine (hright.out _ H0.out).mono ?_
      rintro e w2 ⟨rfl, hc2⟩
      have J2 := box (heap_calm hc2 Hn.out)
      have C2 := box (H0.out.trans hc2)
      clear hc2 c0 c1 c2 c3 c4 c5 c6 c7 c8 c9 hlt
      have c0 := cell_of J2.out 0
      have c1 := cell_of J2.out 1
      have c2 := cell_of J2.out 2
      have c3 := cell_of J2.out 3
      have c4 := cell_of J2.out 4
      have c5 := cell_of J2.out 5
      have c6 := cell_of J2.out 6
      have c7 := cell_of J2.out 7
      have c8 := cell_of J2.out 8
      have c9 := cell_of J2.out 9
      have hlt := heap_lt J2.out
      go_wp2_with fail
      refine (hin.out _ C2.out).mono ?_
      rintro e w3 ⟨rfl, hc3⟩
      have C3 := box (C2.out.trans hc3)
      clear hc3
      go_wp2_with fail
      refine (hseal.out _ C3.out).mono ?_
      rintro e w4 ⟨rfl, hc4⟩
      have C4 := box (C3.out.trans hc4)
      clear hc4
      go_wp2_with fail
      refine (hnum.out _).mono ?_
      rintro e w5 ⟨rfl, hc5⟩
      have C5 := box (C4.out.trans hc5)
      clear hc5
      go_wp2_with fail
      go_ret2
      exact ⟨rfl, C5.out⟩
  · rw [if_pos hR] at hput
    rw [decide_eq_false hR] at hright
    rw [hput]
    clear hput hR
    go_enter Try.func25, Try.ntmps25
    go_wp2_with fail
    clear hW1
    refine (hright.out _ H0.out).mono ?_
    rintro e w2 ⟨rfl, hc2⟩
    have C2 := box (H0.out.trans hc2)
    clear hc2
    go_wp2_with fail
    go_ret2
    exact ⟨rfl, C2.out⟩
end Go.Proofs.Ytofffmnkoelifaa.rc

/- Layer 1: a reader's texts, lists and end. -/
namespace Go.Proofs.Ytofffmnkoelifaa.oc
open Go.ChangeShapes Go.WideShapes Go.ChangeAt Go.RowKit

theorem fails_any (b : Nat) (R : Rdr) (x : Int) (s : ByteArray) (w : World) (h : RdrAt w b R) :
    Calls Try.prog 115 #[.pointer (some ⟨b, 0, none⟩), .int .i64 x, .string s] w fun e w' => e = .returned (.tuple #[]) ∧ RdrAt w' b ⟨s, x⟩ ∧ Keeps (· = b) w w' := by
  obtain ⟨c0, c1, f0, f1, hb⟩ := h.cells
  have h1 := box ((h.setE x).setS s)
  have K := box (((Keeps.refl (fun y => y = b) w).setCell (p := ⟨b, 1, none⟩) (.inl rfl) (.int .i64 x)).setCell (p := ⟨b, 0, none⟩) (.inl rfl) (.string s))
  clear h
  go_enter Try.func115, Try.ntmps115
  go_wp2_with fail
  go_end0
  exact ⟨rfl, h1.out, K.out⟩
theorem Left_any (b : Nat) (R : Rdr) (w : World) (h : RdrAt w b R) : Calls Try.prog 116 #[.pointer (some ⟨b, 0, none⟩)] w fun e w' => e = .returned (.int .i64 R.s.size) ∧ w = w' := by
  obtain ⟨c0, c1, f0, f1, hb⟩ := h.cells
  clear h
  go_enter Try.func116, Try.ntmps116
  go_wp2_with fail
  go_ret
  exact ⟨rfl, rfl⟩
theorem End_any (b : Nat) (R : Rdr) (w : World) (h : RdrAt w b R) : Calls Try.prog 86 #[.pointer (some ⟨b, 0, none⟩)] w fun e w' => e = .returned (.int .i64 R.end_) ∧ w = w' := by
  have HE := box (Err_any b R w h)
  have HL := box (Left_any b R w h)
  obtain ⟨s, e⟩ := R
  clear h
  simp only at HE HL
  by_cases he : e = 0
  · subst he
    by_cases hs : s.size = 0
    · have hr : Rdr.end_ ⟨s, 0⟩ = 0 := by unfold Rdr.end_; rw [if_neg (fun h => h rfl), if_pos hs]
      rw [hr]
      rw [hs] at HL
      clear hr hs
      go_enter Try.func86, Try.ntmps86
      go_wp2_with fail
      refine HE.out.mono ?_
      rintro e w' ⟨rfl, rfl⟩
      go_wp2_with fail
      refine HL.out.mono ?_
      rintro e w' ⟨rfl, rfl⟩
      go_wp2_with fail
      go_ret
      exact ⟨rfl, rfl⟩
    · have hr : Rdr.end_ ⟨s, 0⟩ = 4 := by unfold Rdr.end_; rw [if_neg (fun h => h rfl), if_neg hs]
      rw [hr]
      have hs1 : ((s.size : Int) == 0) = false := beq_eq_false_iff_ne.2 (by omega)
      clear hr hs
      go_enter Try.func86, Try.ntmps86
      go_wp2_with fail
      refine HE.out.mono ?_
      rintro e w' ⟨rfl, rfl⟩
      go_wp2_with fail
      refine HL.out.mono ?_
      rintro e w' ⟨rfl, rfl⟩
      go_wp2_with fail
      go_ret
      exact ⟨rfl, rfl⟩
  · have hr : Rdr.end_ ⟨s, e⟩ = e := by unfold Rdr.end_; rw [if_pos (by simpa using he)]
    rw [hr]
    have he1 : (e == 0) = false := beq_eq_false_iff_ne.2 he
    have he2 : (e != 0) = true := by rw [bne, he1]; rfl
    clear hr he
    go_enter Try.func86, Try.ntmps86
    go_wp2_with fail
    refine HE.out.mono ?_
    rintro e w' ⟨rfl, rfl⟩
    go_wp2_with fail
    go_ret
    exact ⟨rfl, rfl⟩
theorem trans_b {b : Nat} {w w1 w2 : World} (h : Keeps (· = b) w w1) (g : Keeps (· = b) w1 w2) : Keeps (· = b) w w2 := h.trans' g
set_option maxRecDepth 100000 in
set_option maxHeartbeats 4000000 in
theorem RText_any (b : Nat) (R : Rdr) (most : Int) (w : World) (h : RdrAt w b R) (hs : R.s.size ≤ 9223372036854775807) :
    Calls Try.prog 84 #[.pointer (some ⟨b, 0, none⟩), .int .i64 most] w (RdrDone (.string (R.text most).1) b (R.text most).2 w) := by
  have HE := box (Err_any b R w h)
  have HN := box (RNum_any b R 2 w h hs)
  have hl := num_left R 2
  have hns := num_small R 2
  obtain ⟨c0, c1, f0, f1, hb⟩ := h.cells
  have H := box h
  clear h
  by_cases he : R.e = 0
  · have hr := box (show R.text most = (if ((if (R.num 2).2.e = 0 ∧ most < (R.num 2).1 then (⟨(R.num 2).2.s, 6⟩ : Rdr) else (R.num 2).2).take (R.num 2).1).2.e ≠ 0 then (((if (R.num 2).2.e = 0 ∧ most < (R.num 2).1 then (⟨(R.num 2).2.s, 6⟩ : Rdr) else (R.num 2).2).take (R.num 2).1).1, (⟨R.s, ((if (R.num 2).2.e = 0 ∧ most < (R.num 2).1 then (⟨(R.num 2).2.s, 6⟩ : Rdr) else (R.num 2).2).take (R.num 2).1).2.e⟩ : Rdr)) else ((if (R.num 2).2.e = 0 ∧ most < (R.num 2).1 then (⟨(R.num 2).2.s, 6⟩ : Rdr) else (R.num 2).2).take (R.num 2).1)) by unfold Rdr.text; rw [if_neg (fun h => h he)])
    rw [he] at c1 HE
    obtain ⟨⟨n, s1, e1⟩, hN⟩ : ∃ r, R.num 2 = r := ⟨_, rfl⟩
    rw [hN] at HN hl hns hr
    simp only at HN hl hns hr
    obtain ⟨hn0, hn1⟩ := hns
    have hsb := box (Nat.le_trans hl hs)
    have hnb : n < 9223372036854775807 := by omega
    clear hN hl he
    obtain ⟨R2, hR2⟩ : ∃ R2 : Rdr, (if e1 = 0 ∧ most < n then (⟨s1, 6⟩ : Rdr) else ⟨s1, e1⟩) = R2 := ⟨_, rfl⟩
    rw [hR2] at hr
    have hs2 : R2.s = s1 := by rw [← hR2]; split <;> rfl
    have HT := box (fun (W : World) (hW : RdrAt W b R2) => Take_any b R2 n W hW (by rw [hs2]; exact hsb.out))
    obtain ⟨⟨t, s3, e3⟩, hT⟩ : ∃ r, R2.take n = r := ⟨_, rfl⟩
    rw [hT] at hr HT
    simp only at hr HT
    clear hT hs2
    go_enter Try.func84, Try.ntmps84
    go_wp2_with fail
    refine HE.out.mono ?_
    rintro e w1 ⟨rfl, rfl⟩
    go_wp2_with fail
    refine HN.out.mono ?_
    rintro e w2 ⟨rfl, hr2, hk2⟩
    have H2 := box hr2
    have K2 := box hk2
    obtain ⟨d0, d1, g0, g1, hb2⟩ := hr2.cells
    simp only at d0 d1
    clear hr2 hk2 c0 c1 f0 f1 hb
    by_cases h1 : e1 = 0 ∧ most < n
    · obtain ⟨rfl, hmn⟩ := h1
      rw [if_pos ⟨rfl, hmn⟩] at hR2
      subst hR2
      have H3 := box (H2.out.setE 6)
      have K3 := box (K2.out.setCell (p := ⟨b, 1, none⟩) (.inl rfl) (.int .i64 6))
      go_wp2_with fail
      refine (HT.out _ H3.out).mono ?_
      rintro e w4 ⟨rfl, hr4, hk4⟩
      have H4 := box hr4
      have K4 := box (trans_b K3.out hk4)
      obtain ⟨q0, q1, r0, r1, hb4⟩ := hr4.cells
      simp only at q0 q1
      clear hr4 hk4 d0 d1 g0 g1 hb2
      by_cases h3 : e3 = 0
      · subst h3
        have hr := box (show R.text most = (t, ⟨s3, 0⟩) by rw [hr.out, if_neg (fun h => h rfl)])
        go_wp2_with fail
        go_ret
        exact ⟨by rw [hr.out]; rfl, by rw [hr.out]; exact H4.out, K4.out⟩
      · have hr := box (show R.text most = (t, ⟨R.s, e3⟩) by rw [hr.out, if_pos h3])
        have he1 : (e3 == 0) = false := beq_eq_false_iff_ne.2 h3
        have he2 : (e3 != 0) = true := by rw [bne, he1]; rfl
        have HF := box (fails_any b ⟨s3, e3⟩ e3 R.s w4 H4.out)
        clear h3
        go_wp2_with fail
        refine HF.out.mono ?_
        rintro e w5 ⟨rfl, hr5, hk5⟩
        have H5 := box hr5
        have K5 := box (trans_b K4.out hk5)
        clear hr5 hk5
        go_wp2_with fail
        go_ret
        exact ⟨by rw [hr.out]; rfl, by rw [hr.out]; exact H5.out, K5.out⟩
    · rw [if_neg h1] at hR2
      subst hR2
      have H3 := H2
      have K3 := K2
      by_cases h0 : e1 = 0
      · subst h0
        have hmn : n ≤ most := by
          have : ¬ most < n := fun h => h1 ⟨rfl, h⟩
          omega
        clear h1
        go_wp2_with fail
        refine (HT.out _ H3.out).mono ?_
        rintro e w4 ⟨rfl, hr4, hk4⟩
        have H4 := box hr4
        have K4 := box (trans_b K3.out hk4)
        obtain ⟨q0, q1, r0, r1, hb4⟩ := hr4.cells
        simp only at q0 q1
        clear hr4 hk4 d0 d1 g0 g1 hb2
        by_cases h3 : e3 = 0
        · subst h3
          have hr := box (show R.text most = (t, ⟨s3, 0⟩) by rw [hr.out, if_neg (fun h => h rfl)])
          go_wp2_with fail
          go_ret
          exact ⟨by rw [hr.out]; rfl, by rw [hr.out]; exact H4.out, K4.out⟩
        · have hr := box (show R.text most = (t, ⟨R.s, e3⟩) by rw [hr.out, if_pos h3])
          have he1 : (e3 == 0) = false := beq_eq_false_iff_ne.2 h3
          have he2 : (e3 != 0) = true := by rw [bne, he1]; rfl
          have HF := box (fails_any b ⟨s3, e3⟩ e3 R.s w4 H4.out)
          clear h3
          go_wp2_with fail
          refine HF.out.mono ?_
          rintro e w5 ⟨rfl, hr5, hk5⟩
          have H5 := box hr5
          have K5 := box (trans_b K4.out hk5)
          clear hr5 hk5
          go_wp2_with fail
          go_ret
          exact ⟨by rw [hr.out]; rfl, by rw [hr.out]; exact H5.out, K5.out⟩
      · have hz1 : (e1 == 0) = false := beq_eq_false_iff_ne.2 h0
        clear h1 h0
        go_wp2_with fail
        refine (HT.out _ H3.out).mono ?_
        rintro e w4 ⟨rfl, hr4, hk4⟩
        have H4 := box hr4
        have K4 := box (trans_b K3.out hk4)
        obtain ⟨q0, q1, r0, r1, hb4⟩ := hr4.cells
        simp only at q0 q1
        clear hr4 hk4 d0 d1 g0 g1 hb2
        by_cases h3 : e3 = 0
        · subst h3
          have hr := box (show R.text most = (t, ⟨s3, 0⟩) by rw [hr.out, if_neg (fun h => h rfl)])
          go_wp2_with fail
          go_ret
          exact ⟨by rw [hr.out]; rfl, by rw [hr.out]; exact H4.out, K4.out⟩
        · have hr := box (show R.text most = (t, ⟨R.s, e3⟩) by rw [hr.out, if_pos h3])
          have he1 : (e3 == 0) = false := beq_eq_false_iff_ne.2 h3
          have he2 : (e3 != 0) = true := by rw [bne, he1]; rfl
          have HF := box (fails_any b ⟨s3, e3⟩ e3 R.s w4 H4.out)
          clear h3
          go_wp2_with fail
          refine HF.out.mono ?_
          rintro e w5 ⟨rfl, hr5, hk5⟩
          have H5 := box hr5
          have K5 := box (trans_b K4.out hk5)
          clear hr5 hk5
          go_wp2_with fail
          go_ret
          exact ⟨by rw [hr.out]; rfl, by rw [hr.out]; exact H5.out, K5.out⟩
  · have hr : R.text most = (⟨#[]⟩, R) := by unfold Rdr.text; rw [if_pos he]
    rw [hr]
    have he1 : (R.e == 0) = false := beq_eq_false_iff_ne.2 he
    have he2 : (R.e != 0) = true := by rw [bne, he1]; rfl
    clear hr he
    go_enter Try.func84, Try.ntmps84
    go_wp2_with fail
    refine HE.out.mono ?_
    rintro e w' ⟨rfl, rfl⟩
    go_wp2_with fail
    go_ret
    exact ⟨rfl, H.out, Keeps.refl _ w⟩
end Go.Proofs.Ytofffmnkoelifaa.oc
