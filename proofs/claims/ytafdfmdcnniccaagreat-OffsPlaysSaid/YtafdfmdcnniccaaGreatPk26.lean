/- Plain: the model's bit operations at uint32. -/
import Derived.Test.YtafdfmdcnniccaaGreatRows
import Derived.WalkKit
import Derived.ProofKit
import Derived.OpenShut
import Derived.Handy
import Derived.Deep.LoopGhost
import Derived.Lib.Hide
import Derived.Lib.Strings
import Derived.SizedLaws
import Derived.Maps.Own
import Derived.Maps.OwnOps
import Derived.Maps.OwnSet
import Derived.Maps.RangeWalk
import Derived.Deep.QuietTactic
import Derived.BigQuiet
import Derived.Deep.RegionHeld3
import Derived.Lib.ConvBytes
import Derived.Lib.AppendZeros
import Derived.Lib.AppendZerosOnto
import Derived.Lib.LazyBuf
import Derived.Shelf.Abstract
import Derived.LaidEql
import Derived.Lib.SliceRun
import Derived.StillTailTactics
import Derived.Deep.Slices
import Derived.Outline
import Derived.Laws.Cover1
import Derived.Deep.RegionLaw
import Derived.Deep.DeepCutAuto
import Derived.Deep.CutBlock
import Derived.Shelf.SlicesE.Clone
import Derived.Ground.SlgnProg
import Derived.Test.YtafdfmdcnniccaaGreatProg
import Derived.Shelf.Strings.Builder1
import Derived.Shelf.Small.Bits
import Derived.Shelf.Small.Wraps
import Derived.Shelf.Strings.BuilderF
import Derived.Shelf.Strings.BuilderK
import Derived.Shelf.Strconv.Itoa0
import Derived.Shelf.Sort.Plain
import Derived.Shelf.GgClosure.StringsIndexFunc
import Derived.Ground.GgwProg
import Derived.Shelf.GgClosure.StringsIndexFuncTop
import Derived.Shelf.GgClosure.StringsRunes
import Derived.Shelf.Strings.Prefix
import Derived.Shelf.Strings.BuilderCap
import Derived.Ground.Names2Prog
import Derived.Shelf.Slices.SearchI
import Derived.Shelf.Slices.In.SortNone
import Derived.Ground.SlgfProg
import Derived.Shelf.SlicesE.IndexFunc
import Derived.Shelf.SlicesE.DeleteFunc
import Derived.Lib.DecodeN
import Derived.Lib.Overlaps
import Derived.Laws.CopyOwn
import Derived.Laws.MakeOwn
import Derived.Lib.Builder
import Derived.Lib.AppendStr
import Derived.Laws.Rows
import Derived.Shelf.SlIter.Nil
import Derived.Ground.GgzProg
import Derived.Shelf.SortM.Plain
import Derived.Shelf.SortM.SortNone
import Derived.Ground.SlgmProg
import Derived.Laws.BitsLemmas
import Derived.Test.YtafdfmdcnniccaaGreatPk25
namespace Go.Proofs.YtafdfmdcnniccaaGreat.cr
open Go.RowKit

theorem xor32 (a b : Nat) (ha : a < 4294967296) (hb : b < 4294967296) : bits .xor .u32 (a : Int) (b : Int) = ((a ^^^ b : Nat) : Int) := by
  have hx : a ^^^ b < 4294967296 := Nat.xor_lt_two_pow (n := 32) (by omega) (by omega)
  simp only [bits, BitVec.ofInt_natCast, BitVec.toNat_xor, BitVec.toNat_ofNat]
  rw [show IntKind.u32.bits = 32 from rfl, Nat.mod_eq_of_lt (by omega), Nat.mod_eq_of_lt (by omega), IntKind.wrap_u32]
  omega
theorem and32 (a b : Nat) (ha : a < 4294967296) (hb : b < 4294967296) : bits .and .u32 (a : Int) (b : Int) = ((a &&& b : Nat) : Int) :=
  (bits_nat .u32 32 (by decide) (fun n h0 h1 => by rw [IntKind.wrap_u32]; omega) a b (by omega) (by omega)).1
theorem or32 (a b : Nat) (ha : a < 4294967296) (hb : b < 4294967296) : bits .or .u32 (a : Int) (b : Int) = ((a ||| b : Nat) : Int) :=
  (bits_nat .u32 32 (by decide) (fun n h0 h1 => by rw [IntKind.wrap_u32]; omega) a b (by omega) (by omega)).2
theorem xor8 (a b : Nat) (ha : a < 256) (hb : b < 256) : bits .xor .u8 (a : Int) (b : Int) = ((a ^^^ b : Nat) : Int) := by
  have hx : a ^^^ b < 256 := Nat.xor_lt_two_pow (n := 8) (by omega) (by omega)
  simp only [bits, BitVec.ofInt_natCast, BitVec.toNat_xor, BitVec.toNat_ofNat]
  rw [show IntKind.u8.bits = 8 from rfl, Nat.mod_eq_of_lt (by omega), Nat.mod_eq_of_lt (by omega), IntKind.wrap_u8]
  omega
theorem and255 (a : Nat) (ha : a < 4294967296) : bits .and .u32 (a : Int) 255 = ((a % 256 : Nat) : Int) := by
  have := and32 a 255 ha (by decide)
  rw [show ((255 : Nat) : Int) = 255 from rfl] at this
  rw [this, show a &&& 255 = a % 256 from Nat.and_two_pow_sub_one_eq_mod a 8]
theorem and1 (a : Nat) (ha : a < 4294967296) : bits .and .u32 (a : Int) 1 = ((a % 2 : Nat) : Int) := by
  have := and32 a 1 ha (by decide)
  rw [show ((1 : Nat) : Int) = 1 from rfl] at this
  rw [this, show a &&& 1 = a % 2 from Nat.and_two_pow_sub_one_eq_mod a 1]
end Go.Proofs.YtafdfmdcnniccaaGreat.cr

/- Layer 2: check sums, by tables. -/
namespace Go.Proofs.YtafdfmdcnniccaaGreat.cr
open Go.ChangeShapes Go.WideShapes Go.ChangeAt Go.RowKit

theorem first_any (b : Nat) (w : World) (hb : b < 256) : Calls Tryz.prog 63 #[.int .u32 b] w fun e w' => e = .returned (.int .u32 (steps 8 b : Nat)) ∧ w = w' := by
  go_enter Tryz.func63, Tryz.ntmps63
  go_wp2_with fail
  go_loopw [0, 4] (fun x i wr => wr = w ∧ ∃ k y : Nat, k ≤ 8 ∧ i = .int .i64 k ∧ x = .int .u32 y ∧ y < 4294967296 ∧ steps (8 - k) y = steps 8 b) (fun _ i _ => 8 - (intOf i).toNat)
  case atStart => exact ⟨by first | rfl | trivial, 0, b, by omega, rfl, rfl, by omega, rfl⟩
  case round =>
    obtain ⟨rfl, k, y, hk, rfl, rfl, hy, hst⟩ := hrel
    by_cases hlt : k < 8
    · have hst2 := box (show steps (8 - (k + 1)) (step1 y) = steps 8 b by rw [← hst, show 8 - k = (8 - (k + 1)) + 1 by omega]; rfl)
      have hs1 := box (step1_lt hy)
      have ha := and1 y hy
      by_cases hodd : y % 2 = 1
      · rw [hodd] at ha
        have hx : bits .xor .u32 ((y : Int) / 2) 3988292384 = ((step1 y : Nat) : Int) := by
          have := xor32 (y / 2) 3988292384 (by omega) (by decide)
          unfold step1
          rw [if_pos hodd, ← show ((3988292384 : Nat) : Int) = 3988292384 from rfl, ← show ((y / 2 : Nat) : Int) = (y : Int) / 2 by omega, this]
          rfl
        go_wp2_with fail
        go_roundw
        case rel => exact ⟨by first | rfl | trivial, k + 1, step1 y, by omega, by go_num, rfl, hs1.out, hst2.out⟩
        case measure => simp [intOf]; omega
      · have h0 : y % 2 = 0 := by omega
        rw [h0] at ha
        have hx : (y : Int) / 2 = ((step1 y : Nat) : Int) := by unfold step1; rw [if_neg hodd, Nat.xor_zero]; omega
        go_wp2_with fail
        go_roundw
        case rel => exact ⟨by first | rfl | trivial, k + 1, step1 y, by omega, by go_num, rfl, hs1.out, hst2.out⟩
        case measure => simp [intOf]; omega
    · obtain rfl : k = 8 := by omega
      go_wp2_with fail
      go_ret
      exact ⟨ret_int (by rw [← hst]; rfl), rfl⟩
/-- The four tables' cells: the first n are laid. -/
abbrev tabI (n i : Nat) : Nat := if i < n then steps (8 * (i / 256 + 1)) (i % 256) else 0
def tabC (n : Nat) : Array Value := ((List.range 1024).map fun i => Value.int .u32 ((tabI n i : Nat) : Int)).toArray
def TabAt (w : World) (b n : Nat) : Prop := w.heap[b]? = some (.cells (tabC n) 109 (0, 0))
theorem tabC_get (n i : Nat) (hi : i < 1024) : (tabC n)[i]? = some (.int .u32 ((tabI n i : Nat) : Int)) := by
  unfold tabC; simp [hi]
theorem tabC_set (n : Nat) (h : n < 1024) : (tabC n).setIfInBounds n (.int .u32 ((steps (8 * (n / 256 + 1)) (n % 256) : Nat) : Int)) = tabC (n + 1) := by
  apply Array.ext_getElem?
  intro i
  rw [Array.getElem?_setIfInBounds]
  by_cases hi : i < 1024
  · by_cases e : n = i
    · subst e
      rw [if_pos rfl, if_pos (by unfold tabC; simp; omega), tabC_get _ _ hi]
      unfold tabI
      rw [if_pos (by omega)]
    · rw [if_neg e, tabC_get _ _ hi, tabC_get _ _ hi]
      unfold tabI
      by_cases h1 : i < n
      · rw [if_pos h1, if_pos (by omega)]
      · rw [if_neg h1, if_neg (by omega)]
  · have h1 : (tabC n)[i]? = none := by unfold tabC; simp; omega
    have h2 : (tabC (n + 1))[i]? = none := by unfold tabC; simp; omega
    rw [if_neg (by omega), h1, h2]
theorem zero_tab : Tryz.zeroCells109 = tabC 0 := by kernel_rfl
theorem tab_cell {w : World} {b n : Nat} (h : TabAt w b n) (i : Nat) (hi : i < 1024) : w.cell? ⟨b, i, none⟩ = some (.int .u32 ((tabI n i : Nat) : Int)) := by rw [cell_of h, tabC_get n i hi]
theorem tab_store {w : World} {b n : Nat} (h : TabAt w b n) (hn : n < 1024) : TabAt (w.setCell ⟨b, n, none⟩ (.int .u32 ((steps (8 * (n / 256 + 1)) (n % 256) : Nat) : Int))) b (n + 1) := by
  have := heap_set h n (.int .u32 ((steps (8 * (n / 256 + 1)) (n % 256) : Nat) : Int))
  rw [tabC_set n hn] at this
  exact this
theorem calm_tab {a w : World} (h : Calm a w) {b k : Nat} (hp : a.heap.size ≤ b) (u : Value) : Calm a (w.setCell ⟨b, k, none⟩ u) :=
  ((Keeps.of_calm (F := fun b => a.heap.size ≤ b) h).setCell (p := ⟨b, k, none⟩) (.inr hp) u).below (Nat.le_refl _) (fun _ h => h)
set_option maxRecDepth 100000 in
set_option maxHeartbeats 4000000 in
theorem New_any (w : World) : Calls Tryz.prog 37 #[] w fun e w' => ∃ b, e = .returned (.pointer (some ⟨b, 0, none⟩)) ∧ TabAt w' b 1024 ∧ w.heap.size ≤ b ∧ Calm w w' := by
  have T0 := box (show TabAt (w.alloc (.cells Tryz.zeroCells109 109)) w.heap.size 0 by unfold TabAt; rw [← zero_tab]; exact heap_new w _)
  have C0 := box ((Calm.refl w).alloc (.cells Tryz.zeroCells109 109))
  go_enter Tryz.func37, Tryz.ntmps37
  go_wp2_with fail
  go_loopw [8] (fun i wr => ∃ k : Nat, k ≤ 256 ∧ i = .int .i64 k ∧ TabAt wr w.heap.size k ∧ Calm w wr) (fun i _ => 256 - (intOf i).toNat)
  case atStart => exact ⟨0, Nat.zero_le _, rfl, T0.out, C0.out⟩
  case round =>
    clear T0 C0
    obtain ⟨k, hk, rfl, ht, hc⟩ := hrel
    have HT := box ht
    have HC := box hc
    clear ht hc
    by_cases hlt : k < 256
    · have hst := box (by have := tab_store HT.out (show k < 1024 by omega); rwa [show k / 256 = 0 by omega, show k % 256 = k by omega] at this)
      have hcal := box ((calm_tab HC.out (b := w.heap.size) (k := k) (Nat.le_refl _) (.int .u32 ((steps 8 k : Nat) : Int))).drew)
      have c0 := tab_cell HT.out k (by omega)
      have f0 := free_of HT.out k
      have hb := heap_lt HT.out
      have hw : IntKind.u32.wrap (k : Int) = k := by rw [IntKind.wrap_u32]; omega
      go_wp2_with fail
      go_region_held3 (fun w' => w'.frozen? ⟨w.heap.size, k, none⟩ = false) (go_keep) ((go_at_call 63; refine (first_any k _ hlt).mono ?_; rintro e w' ⟨rfl, rfl⟩))
      go_wp2_with fail
      go_roundw
      case rel => exact ⟨k + 1, by omega, by go_num, hst.out, hcal.out⟩
      case measure => simp [intOf]; omega
    · obtain rfl : k = 256 := by omega
      rw [show ((256 : Nat) : Int) = 256 from rfl]
      go_wp2_with fail
      go_loopw [3] (fun i wr => ∃ k : Nat, 1 ≤ k ∧ k ≤ 4 ∧ i = .int .i64 k ∧ TabAt wr w.heap.size (256 * k) ∧ Calm w wr) (fun i _ => 4 - (intOf i).toNat)
      case atStart => exact ⟨1, by omega, by omega, rfl, HT.out, HC.out⟩
      case round =>
        clear HT HC
        obtain ⟨k, hk1, hk4, rfl, ht, hc⟩ := hrel
        have HT := box ht
        have HC := box hc
        clear ht hc
        obtain ⟨wo, hwo⟩ : ∃ wo : World, wo = wr := ⟨_, rfl⟩
        subst hwo
        by_cases hlt : k < 4
        · have h123 : k = 1 ∨ k = 2 ∨ k = 3 := by omega
          rcases h123 with rfl | rfl | rfl
          · rw [show ((1 : Nat) : Int) = 1 from rfl]
            go_wp2_with fail
            go_loopw [25] (fun i wr => ∃ j : Nat, j ≤ 256 ∧ i = .int .i64 j ∧ TabAt wr w.heap.size (256 * 1 + j) ∧ Calm w wr) (fun i _ => 256 - (intOf i).toNat)
            case atStart => exact ⟨0, by omega, rfl, HT.out, HC.out⟩
            case round =>
              clear HT HC
              obtain ⟨j, hj, rfl, ht, hc⟩ := hrel
              have HT := box ht
              have HC := box hc
              clear ht hc
              by_cases hjlt : j < 256
              · have HT := box (show TabAt wr w.heap.size (256 + j) from HT.out)
                have hst := box (by have := tab_store HT.out (show 256 + j < 1024 by omega); rwa [show (256 + j) / 256 = 1 by omega, show (256 + j) % 256 = j by omega, tab_next 0 j] at this)
                obtain ⟨y, hy⟩ : ∃ y, steps (8 * (0 + 1)) j = y := ⟨_, rfl⟩
                have hyl : y < 4294967296 := by rw [← hy]; exact steps_lt _ (by omega)
                have c1 := tab_cell HT.out (j) (by omega)
                rw [show tabI (256 + j) (j) = y by unfold tabI; rw [if_pos (by omega), show (j) / 256 = 0 by omega, show (j) % 256 = j by omega, hy]] at c1
                have c2 := tab_cell HT.out (y % 256) (by omega)
                rw [show tabI (256 + j) (y % 256) = steps 8 (y % 256) by unfold tabI; rw [if_pos (by omega), show (y % 256) / 256 = 0 by omega, show (y % 256) % 256 = y % 256 by omega]] at c2
                obtain ⟨z, hz⟩ : ∃ z, steps 8 (y % 256) = z := ⟨_, rfl⟩
                have hzl : z < 4294967296 := by rw [← hz]; exact steps_lt 8 (by omega)
                rw [hy, hz] at hst
                rw [hz] at c2
                have ha := and255 y hyl
                obtain ⟨u, hu⟩ : ∃ u, y % 256 = u := ⟨_, rfl⟩
                have hul : u < 256 := by omega
                have hul2 : (u : Int) < 256 := by omega
                rw [hu] at ha c2 hz
                have hx : bits .xor .u32 (z : Int) ((y : Int) / 256) = ((z ^^^ y / 256 : Nat) : Int) := by
                  rw [← show ((y / 256 : Nat) : Int) = (y : Int) / 256 by omega]; exact xor32 z (y / 256) hzl (by omega)
                have c3 := tab_cell HT.out (256 + j) (by omega)
                have f3 := free_of HT.out (256 + j)
                have hb := heap_lt HT.out
                have hcal := box ((calm_tab HC.out (b := w.heap.size) (k := 256 + j) (Nat.le_refl _) (.int .u32 ((z ^^^ y / 256 : Nat) : Int))).drew)
                have hS := box (show (wr.setCell ⟨w.heap.size, 256 + j, none⟩ (.int .u32 ((z ^^^ y / 256 : Nat) : Int))).cell? ⟨w.heap.size, u, none⟩ = some (.int .u32 z) from by
                  have := tab_cell hst.out u (by omega)
                  rw [show tabI (256 + j + 1) u = z by unfold tabI; rw [if_pos (by omega), show u / 256 = 0 by omega, show u % 256 = u by omega]; exact hz] at this
                  exact this)
                clear hy hz hu
                go_wp2_with fail
                go_region_held3 (fun w' => w'.cell? ⟨w.heap.size, u, none⟩ = some (.int .u32 (z : Nat))) (first | exact hS.out | go_keep) (fail)
                go_wp2_with fail
                go_roundw
                case rel => exact ⟨j + 1, by omega, by go_num, by rw [show 256 * 1 + (j + 1) = 256 + j + 1 by omega]; exact hst.out, hcal.out⟩
                case measure => simp [intOf]; omega
              · obtain rfl : j = 256 := by omega
                go_wp2_with fail
                go_roundw
                case rel => exact ⟨2, by omega, by omega, by go_num, HT.out, HC.out⟩
                case measure => simp [intOf]
          · rw [show ((2 : Nat) : Int) = 2 from rfl]
            go_wp2_with fail
            go_loopw [25] (fun i wr => ∃ j : Nat, j ≤ 256 ∧ i = .int .i64 j ∧ TabAt wr w.heap.size (256 * 2 + j) ∧ Calm w wr) (fun i _ => 256 - (intOf i).toNat)
            case atStart => exact ⟨0, by omega, rfl, HT.out, HC.out⟩
            case round =>
              clear HT HC
              obtain ⟨j, hj, rfl, ht, hc⟩ := hrel
              have HT := box ht
              have HC := box hc
              clear ht hc
              by_cases hjlt : j < 256
              · have HT := box (show TabAt wr w.heap.size (512 + j) from HT.out)
                have hst := box (by have := tab_store HT.out (show 512 + j < 1024 by omega); rwa [show (512 + j) / 256 = 2 by omega, show (512 + j) % 256 = j by omega, tab_next 1 j] at this)
                obtain ⟨y, hy⟩ : ∃ y, steps (8 * (1 + 1)) j = y := ⟨_, rfl⟩
                have hyl : y < 4294967296 := by rw [← hy]; exact steps_lt _ (by omega)
                have c1 := tab_cell HT.out (256 + j) (by omega)
                rw [show tabI (512 + j) (256 + j) = y by unfold tabI; rw [if_pos (by omega), show (256 + j) / 256 = 1 by omega, show (256 + j) % 256 = j by omega, hy]] at c1
                have c2 := tab_cell HT.out (y % 256) (by omega)
                rw [show tabI (512 + j) (y % 256) = steps 8 (y % 256) by unfold tabI; rw [if_pos (by omega), show (y % 256) / 256 = 0 by omega, show (y % 256) % 256 = y % 256 by omega]] at c2
                obtain ⟨z, hz⟩ : ∃ z, steps 8 (y % 256) = z := ⟨_, rfl⟩
                have hzl : z < 4294967296 := by rw [← hz]; exact steps_lt 8 (by omega)
                rw [hy, hz] at hst
                rw [hz] at c2
                have ha := and255 y hyl
                obtain ⟨u, hu⟩ : ∃ u, y % 256 = u := ⟨_, rfl⟩
                have hul : u < 256 := by omega
                have hul2 : (u : Int) < 256 := by omega
                rw [hu] at ha c2 hz
                have hx : bits .xor .u32 (z : Int) ((y : Int) / 256) = ((z ^^^ y / 256 : Nat) : Int) := by
                  rw [← show ((y / 256 : Nat) : Int) = (y : Int) / 256 by omega]; exact xor32 z (y / 256) hzl (by omega)
                have c3 := tab_cell HT.out (512 + j) (by omega)
                have f3 := free_of HT.out (512 + j)
                have hb := heap_lt HT.out
                have hcal := box ((calm_tab HC.out (b := w.heap.size) (k := 512 + j) (Nat.le_refl _) (.int .u32 ((z ^^^ y / 256 : Nat) : Int))).drew)
                have hS := box (show (wr.setCell ⟨w.heap.size, 512 + j, none⟩ (.int .u32 ((z ^^^ y / 256 : Nat) : Int))).cell? ⟨w.heap.size, u, none⟩ = some (.int .u32 z) from by
                  have := tab_cell hst.out u (by omega)
                  rw [show tabI (512 + j + 1) u = z by unfold tabI; rw [if_pos (by omega), show u / 256 = 0 by omega, show u % 256 = u by omega]; exact hz] at this
                  exact this)
                clear hy hz hu
                go_wp2_with fail
                go_region_held3 (fun w' => w'.cell? ⟨w.heap.size, u, none⟩ = some (.int .u32 (z : Nat))) (first | exact hS.out | go_keep) (fail)
                go_wp2_with fail
                go_roundw
                case rel => exact ⟨j + 1, by omega, by go_num, by rw [show 256 * 2 + (j + 1) = 512 + j + 1 by omega]; exact hst.out, hcal.out⟩
                case measure => simp [intOf]; omega
              · obtain rfl : j = 256 := by omega
                go_wp2_with fail
                go_roundw
                case rel => exact ⟨3, by omega, by omega, by go_num, HT.out, HC.out⟩
                case measure => simp [intOf]
          · rw [show ((3 : Nat) : Int) = 3 from rfl]
            go_wp2_with fail
            go_loopw [25] (fun i wr => ∃ j : Nat, j ≤ 256 ∧ i = .int .i64 j ∧ TabAt wr w.heap.size (256 * 3 + j) ∧ Calm w wr) (fun i _ => 256 - (intOf i).toNat)
            case atStart => exact ⟨0, by omega, rfl, HT.out, HC.out⟩
            case round =>
              clear HT HC
              obtain ⟨j, hj, rfl, ht, hc⟩ := hrel
              have HT := box ht
              have HC := box hc
              clear ht hc
              by_cases hjlt : j < 256
              · have HT := box (show TabAt wr w.heap.size (768 + j) from HT.out)
                have hst := box (by have := tab_store HT.out (show 768 + j < 1024 by omega); rwa [show (768 + j) / 256 = 3 by omega, show (768 + j) % 256 = j by omega, tab_next 2 j] at this)
                obtain ⟨y, hy⟩ : ∃ y, steps (8 * (2 + 1)) j = y := ⟨_, rfl⟩
                have hyl : y < 4294967296 := by rw [← hy]; exact steps_lt _ (by omega)
                have c1 := tab_cell HT.out (512 + j) (by omega)
                rw [show tabI (768 + j) (512 + j) = y by unfold tabI; rw [if_pos (by omega), show (512 + j) / 256 = 2 by omega, show (512 + j) % 256 = j by omega, hy]] at c1
                have c2 := tab_cell HT.out (y % 256) (by omega)
                rw [show tabI (768 + j) (y % 256) = steps 8 (y % 256) by unfold tabI; rw [if_pos (by omega), show (y % 256) / 256 = 0 by omega, show (y % 256) % 256 = y % 256 by omega]] at c2
                obtain ⟨z, hz⟩ : ∃ z, steps 8 (y % 256) = z := ⟨_, rfl⟩
                have hzl : z < 4294967296 := by rw [← hz]; exact steps_lt 8 (by omega)
                rw [hy, hz] at hst
                rw [hz] at c2
                have ha := and255 y hyl
                obtain ⟨u, hu⟩ : ∃ u, y % 256 = u := ⟨_, rfl⟩
                have hul : u < 256 := by omega
                have hul2 : (u : Int) < 256 := by omega
                rw [hu] at ha c2 hz
                have hx : bits .xor .u32 (z : Int) ((y : Int) / 256) = ((z ^^^ y / 256 : Nat) : Int) := by
                  rw [← show ((y / 256 : Nat) : Int) = (y : Int) / 256 by omega]; exact xor32 z (y / 256) hzl (by omega)
                have c3 := tab_cell HT.out (768 + j) (by omega)
                have f3 := free_of HT.out (768 + j)
                have hb := heap_lt HT.out
                have hcal := box ((calm_tab HC.out (b := w.heap.size) (k := 768 + j) (Nat.le_refl _) (.int .u32 ((z ^^^ y / 256 : Nat) : Int))).drew)
                have hS := box (show (wr.setCell ⟨w.heap.size, 768 + j, none⟩ (.int .u32 ((z ^^^ y / 256 : Nat) : Int))).cell? ⟨w.heap.size, u, none⟩ = some (.int .u32 z) from by
                  have := tab_cell hst.out u (by omega)
                  rw [show tabI (768 + j + 1) u = z by unfold tabI; rw [if_pos (by omega), show u / 256 = 0 by omega, show u % 256 = u by omega]; exact hz] at this
                  exact this)
                clear hy hz hu
                go_wp2_with fail
                go_region_held3 (fun w' => w'.cell? ⟨w.heap.size, u, none⟩ = some (.int .u32 (z : Nat))) (first | exact hS.out | go_keep) (fail)
                go_wp2_with fail
                go_roundw
                case rel => exact ⟨j + 1, by omega, by go_num, by rw [show 256 * 3 + (j + 1) = 768 + j + 1 by omega]; exact hst.out, hcal.out⟩
                case measure => simp [intOf]; omega
              · obtain rfl : j = 256 := by omega
                go_wp2_with fail
                go_roundw
                case rel => exact ⟨4, by omega, by omega, by go_num, HT.out, HC.out⟩
                case measure => simp [intOf]
        · obtain rfl : k = 4 := by omega
          go_wp2_with fail
          go_ret
          exact ⟨w.heap.size, rfl, HT.out, Nat.le_refl _, HC.out⟩
set_option maxRecDepth 100000 in
set_option maxHeartbeats 4000000 in
theorem one_any (b x : Nat) (c : UInt8) (w : World) (h : TabAt w b 1024) (hx : x < 4294967296) :
    Calls Tryz.prog 91 #[.pointer (some ⟨b, 0, none⟩), .int .u32 x, .int .u8 c.toNat] w fun e w' => e = .returned (.int .u32 (crcB x c : Nat)) ∧ w = w' := by
  have hcb := c.toNat_lt
  obtain ⟨u, hu⟩ : ∃ u, (x % 256) ^^^ c.toNat = u := ⟨_, rfl⟩
  have hul : u < 256 := by rw [← hu]; exact Nat.xor_lt_two_pow (n := 8) (by omega) (by omega)
  have c0 := tab_cell h u (by omega)
  rw [show tabI 1024 u = steps 8 u by unfold tabI; rw [if_pos (by omega), show u / 256 = 0 by omega, show u % 256 = u by omega]] at c0
  have hb := heap_lt h
  have hz : steps 8 u < 4294967296 := steps_lt 8 (by omega)
  have hr : crcB x c = steps 8 u ^^^ x / 256 := by rw [crcB_tab, hu]
  rw [hr]
  obtain ⟨z, hzz⟩ : ∃ z, steps 8 u = z := ⟨_, rfl⟩
  rw [hzz] at c0 hz ⊢
  have hw : IntKind.u8.wrap (x : Int) = ((x % 256 : Nat) : Int) := by rw [IntKind.wrap_u8]; omega
  have ha : bits .xor .u8 ((x % 256 : Nat) : Int) (c.toNat : Int) = (u : Int) := by rw [xor8 _ _ (by omega) hcb, hu]
  have ha' : bits .xor .u8 ((x : Int) % 256) (c.toNat : Int) = (u : Int) := by rw [← ha]; congr 1
  have hx2 : bits .xor .u32 (z : Int) ((x : Int) / 256) = ((z ^^^ x / 256 : Nat) : Int) := by
    rw [← show ((x / 256 : Nat) : Int) = (x : Int) / 256 by omega]; exact xor32 z (x / 256) hz (by omega)
  have hul2 : (u : Int) < 256 := by omega
  clear h hu hr hzz
  go_enter Tryz.func91, Tryz.ntmps91
  go_wp2_with fail
  go_ret
  exact ⟨rfl, rfl⟩
end Go.Proofs.YtafdfmdcnniccaaGreat.cr

/- Plain: a record's bytes, sealed and told; what any bytes are. -/
namespace Go.Proofs.YtafdfmdcnniccaaGreat.rc
open Go.RowKit
open Go.Proofs.YtafdfmdcnniccaaGreat.oc Go.Proofs.YtafdfmdcnniccaaGreat.cr

abbrev markC : ByteArray := ⟨#[165]⟩
abbrev blankC : ByteArray := ⟨#[90]⟩
abbrev zeroM : MsgS := ⟨0, 0, 0, 0, 0, 0, ⟨#[]⟩, ⟨#[]⟩, ⟨#[]⟩, []⟩
abbrev fillM (n : Nat) : MsgS := ⟨0, 0, 0, 0, 0, 0, ⟨#[]⟩, ⟨#[]⟩, zerosB n, []⟩
/-- Sealed bytes. -/
def sealL (l : List UInt8) : List UInt8 := low 4 (crcN l) ++ l
def fillB (n : Nat) : ByteArray := ⟨((90 : UInt8) :: (low 2 n ++ List.replicate (n - 3) 0)).toArray⟩
def recB (m : MsgS) : ByteArray := ⟨((165 : UInt8) :: (low 2 (3 + (sealL (insideL m)).length) ++ sealL (insideL m))).toArray⟩
/-- What was sealed. -/
def openSeal (t : ByteArray) : Option ByteArray := if t.size < 4 ∨ t.data.toList.take 4 ≠ low 4 (crcN (t.data.toList.drop 4)) then none else some (t.extract 4 t.size)
section
variable (P : MsgS → Prop) [DecidablePred P]
/-- A record's bytes, and the error's number. -/
def putS (m : MsgS) : ByteArray × Int :=
  if ¬ P m then (⟨#[]⟩, 1) else if m.kind = 0 then (if 3 ≤ m.body.size ∧ m.body.size ≤ 1024 then (fillB m.body.size, 0) else (⟨#[]⟩, 1)) else (recB m, 0)
/-- The record of bytes, how many it has, and the error's number. -/
def getS (s : ByteArray) : MsgS × Int × Int :=
  let a := (⟨s, 0⟩ : Rdr).take 1
  let b := a.2.num 2
  let c := b.2.take (max (b.1 - 3) 0)
  if a.1 ≠ ⟨#[]⟩ ∧ a.1 ≠ markC ∧ a.1 ≠ blankC then (zeroM, 0, 4)
  else if s.size < 3 then (zeroM, 0, 3)
  else if b.1 < 3 ∨ (a.1 = blankC ∧ 1024 < b.1) then (zeroM, 0, 4)
  else if c.2.e ≠ 0 then (zeroM, 0, 3)
  else if a.1 = blankC ∧ c.1 ≠ zerosB c.1.size then (zeroM, 0, 4)
  else if a.1 = blankC then (fillM b.1.toNat, b.1, 0)
  else match openSeal c.1 with
    | none => (zeroM, 0, 5)
    | some t => if (openS t).2.end_ = 0 ∧ (openS t).1.kind ≠ 0 ∧ P (openS t).1 then ((openS t).1, b.1, 0) else (zeroM, 0, 4)
variable {P}
theorem seal_back {t : ByteArray} {u : ByteArray} (h : openSeal t = some u) : t.data.toList = sealL u.data.toList := by
  unfold openSeal at h
  split at h
  · cases h
  · rename_i hc
    have h1 : ¬ t.size < 4 := fun h => hc (.inl h)
    have h2 : t.data.toList.take 4 = low 4 (crcN (t.data.toList.drop 4)) := Classical.byContradiction fun h => hc (.inr h)
    cases h
    have e : (t.extract 4 t.size).data.toList = t.data.toList.drop 4 := by
      simp only [ByteArray.data_extract, Array.toList_extract, List.extract_eq_take_drop]
      exact List.take_of_length_le (by rw [List.length_drop, size_toList]; exact Nat.le_refl _)
    rw [e]
    unfold sealL
    rw [← h2, List.take_append_drop]
theorem seal_open (l : List UInt8) : openSeal ⟨(sealL l).toArray⟩ = some ⟨l.toArray⟩ := by
  have hsz : (⟨(sealL l).toArray⟩ : ByteArray).size = 4 + l.length := by show (sealL l).toArray.size = _; unfold sealL; simp [low_length]
  unfold openSeal
  have ht : (sealL l).take 4 = low 4 (crcN l) := by unfold sealL; rw [List.take_append_of_le_length (by rw [low_length]; exact Nat.le_refl _), List.take_of_length_le (by rw [low_length]; exact Nat.le_refl _)]
  have hd : (sealL l).drop 4 = l := by unfold sealL; rw [List.drop_append_of_le_length (by rw [low_length]; exact Nat.le_refl _), List.drop_of_length_le (by rw [low_length]; exact Nat.le_refl _), List.nil_append]
  rw [if_neg (by
    rintro (h | h)
    · rw [hsz] at h; omega
    · simp only at h; rw [ht, hd] at h; exact h rfl)]
  congr 1
  apply ba_ext
  rw [hsz]
  simp only [ByteArray.data_extract, Array.toList_extract, List.extract_eq_take_drop]
  rw [hd]
  exact List.take_of_length_le (by omega)
/-- Bytes that are a record begin with just its bytes. -/
theorem get_put (h0 : ∀ n, n ≤ 1024 → P (fillM n)) {s : ByteArray} {x : MsgS} {n : Int} (h : getS P s = (x, n, 0)) : ∃ r, (putS P x).2 = 0 ∧ s.data.toList = (putS P x).1.data.toList ++ r ∧ n = (putS P x).1.size := by
  unfold getS at h
  simp only at h
  generalize ha : (⟨s, 0⟩ : Rdr).take 1 = a at h
  generalize hb : a.2.num 2 = b at h
  generalize hc : b.2.take (max (b.1 - 3) 0) = c at h
  by_cases c1 : a.1 ≠ ⟨#[]⟩ ∧ a.1 ≠ markC ∧ a.1 ≠ blankC
  · rw [if_pos c1] at h; simp at h
  rw [if_neg c1] at h
  by_cases c2 : s.size < 3
  · rw [if_pos c2] at h; simp at h
  rw [if_neg c2] at h
  by_cases c3 : b.1 < 3 ∨ (a.1 = blankC ∧ 1024 < b.1)
  · rw [if_pos c3] at h; simp at h
  rw [if_neg c3] at h
  by_cases c4 : c.2.e ≠ 0
  · rw [if_pos c4] at h; simp at h
  rw [if_neg c4] at h
  have c4' : c.2.e = 0 := by simpa using c4
  obtain ⟨oc, nc⟩ := take_over (by rw [hc]; exact c4')
  have ob := num_over (n := 2) (by decide) (by decide) (by show (Rdr.num _ 2).2.e = 0; rw [hb]; exact oc.ok)
  obtain ⟨oa, na⟩ := take_over (by rw [ha]; exact ob.ok)
  rw [hc] at oc nc
  rw [show Rdr.num _ ((2 : Nat) : Int) = b from hb] at ob
  rw [ha] at oa na
  have all := (oa.trans (ob.trans oc)).bytes
  simp only at all
  have hb3 : 3 ≤ b.1 := by omega
  by_cases c5 : a.1 = blankC ∧ c.1 ≠ zerosB c.1.size
  · rw [if_pos c5] at h; simp at h
  rw [if_neg c5] at h
  by_cases c6 : a.1 = blankC
  · rw [if_pos c6] at h
    simp only [Prod.mk.injEq, and_true] at h
    obtain ⟨rfl, rfl⟩ := h
    have hz : c.1 = zerosB c.1.size := Classical.byContradiction fun hh => c5 ⟨c6, hh⟩
    have hle : b.1.toNat ≤ 1024 := by
      have : ¬ 1024 < b.1 := fun hh => c3 (.inr ⟨c6, hh⟩)
      omega
    have hput : putS P (fillM b.1.toNat) = (fillB b.1.toNat, 0) := by
      unfold putS
      rw [if_neg (fun hh => hh (h0 _ hle)), if_pos rfl]
      simp only [zerosB_size]
      rw [if_pos ⟨by omega, hle⟩]
    rw [hput]
    refine ⟨c.2.s.data.toList, rfl, ?_, ?_⟩
    · rw [all, c6, hz]
      have hcs : c.1.size = b.1.toNat - 3 := by omega
      rw [hcs]
      unfold fillB zerosB
      simp
    · show b.1 = ((fillB b.1.toNat).size : Int)
      have : (fillB b.1.toNat).size = 1 + (2 + (b.1.toNat - 3)) := by show (_ : List UInt8).toArray.size = _; simp [low_length]; omega
      rw [this]; omega
  · rw [if_neg c6] at h
    have hmark : a.1 = markC := by
      have h1 : a.1 ≠ ⟨#[]⟩ := fun e => by rw [e] at na; cases na
      exact Classical.byContradiction fun hh => c1 ⟨h1, hh, c6⟩
    cases ho : openSeal c.1 with
    | none => rw [ho] at h; simp at h
    | some t =>
      rw [ho] at h
      simp only at h
      by_cases c7 : (openS t).2.end_ = 0 ∧ (openS t).1.kind ≠ 0 ∧ P (openS t).1
      · rw [if_pos c7] at h
        obtain ⟨e1, e2, e3⟩ := c7
        simp only [Prod.mk.injEq, and_true] at h
        obtain ⟨rfl, rfl⟩ := h
        have hput : putS P (openS t).1 = (recB (openS t).1, 0) := by
          unfold putS
          rw [if_neg (fun hh => hh e3), if_neg e2]
        have hin := inside_open e1
        have hs := seal_back ho
        have hs2 : c.1.data.toList = sealL (insideL (openS t).1) := by rw [hs]; conv => lhs; rw [hin]
        have hlen : (sealL (insideL (openS t).1)).length = c.1.size := by rw [← hs2, size_toList]
        rw [hput]
        refine ⟨c.2.s.data.toList, rfl, ?_, ?_⟩
        · rw [all, hmark, hs2]
          unfold recB
          rw [hlen, show 3 + c.1.size = b.1.toNat by omega]
          simp
        · show b.1 = ((recB (openS t).1).size : Int)
          have : (recB (openS t).1).size = 1 + (2 + (sealL (insideL (openS t).1)).length) := by show (_ : List UInt8).toArray.size = _; simp [low_length]; omega
          rw [this, hlen]; omega
      · rw [if_neg c7] at h; simp at h
/-- It fits into its bytes. -/
structure Fits (m : MsgS) : Prop where
  kind : 0 ≤ m.kind ∧ m.kind < 256
  queue : 0 ≤ m.queue ∧ m.queue < 256
  retry : 0 ≤ m.retry ∧ m.retry < 256
  born : 0 ≤ m.born ∧ m.born < 281474976710656
  due : 0 ≤ m.due ∧ m.due < 281474976710656
  ref : 0 ≤ m.ref ∧ m.ref < 281474976710656
  topic : m.topic.size ≤ 16
  tag : m.tag.size ≤ 16
  body : m.body.size ≤ 200
  keys : m.keys.length ≤ 3
  key : ∀ s ∈ m.keys, s.size ≤ 16
theorem textsL_le : ∀ (l : List ByteArray), (∀ s ∈ l, s.size ≤ 16) → (textsL l).length ≤ 18 * l.length
  | [], _ => by simp [textsL]
  | s :: l, h => by
    have h1 := h s (List.mem_cons_self ..)
    have h2 := textsL_le l (fun t ht => h t (List.mem_cons_of_mem _ ht))
    have h3 : textsL (s :: l) = textL s ++ textsL l := by unfold textsL; rw [List.flatMap_cons]
    rw [h3, List.length_append, textL_length, List.length_cons]
    omega
theorem inside_length {m : MsgS} (h : Fits m) : (insideL m).length ≤ 314 := by
  have h1 := textsL_le m.keys h.key
  have := h.topic
  have := h.tag
  have := h.body
  have := h.keys
  unfold insideL
  simp only [List.length_append, low_length, textL_length]
  omega
theorem seal_length (l : List UInt8) : (sealL l).length = 4 + l.length := by unfold sealL; rw [List.length_append, low_length]
/-- The reader's way over a head, a number and so many bytes. -/
theorem read_head (x : UInt8) (n : Nat) (hn : n < 65536) (a r : List UInt8) (ha : a.length = n - 3) (h3 : 3 ≤ n) :
    (⟨⟨(x :: (low 2 n ++ (a ++ r))).toArray⟩, 0⟩ : Rdr).take 1 = (⟨#[x]⟩, ⟨⟨(low 2 n ++ (a ++ r)).toArray⟩, 0⟩) ∧
    (⟨⟨(low 2 n ++ (a ++ r)).toArray⟩, 0⟩ : Rdr).num 2 = ((n : Int), ⟨⟨(a ++ r).toArray⟩, 0⟩) ∧
    (⟨⟨(a ++ r).toArray⟩, 0⟩ : Rdr).take (max ((n : Int) - 3) 0) = (⟨a.toArray⟩, ⟨⟨r.toArray⟩, 0⟩) := by
  refine ⟨?_, ?_, ?_⟩
  · exact take_back [x] (low 2 n ++ (a ++ r))
  · exact num_back 2 n (by decide) (by decide) hn (a ++ r)
  · have := take_back a r
    rwa [ha, show (((n - 3 : Nat) : Int)) = max ((n : Int) - 3) 0 by omega] at this
theorem get_rec (hfit : ∀ m, P m → m.kind ≠ 0 → Fits m) {m : MsgS} (hp : P m) (hk : m.kind ≠ 0) (r : List UInt8) : getS P ⟨((recB m).data.toList ++ r).toArray⟩ = (m, ((recB m).size : Int), 0) := by
  have F := hfit m hp hk
  have hl := inside_length F
  have hsl := seal_length (insideL m)
  have hsz : (recB m).size = 3 + (sealL (insideL m)).length := by show (_ : List UInt8).toArray.size = _; simp [low_length]; omega
  have hopen := open_inside m F.kind F.queue F.retry F.born F.due F.ref F.topic F.tag F.body F.keys F.key
  have he : (recB m).data.toList ++ r = (165 : UInt8) :: (low 2 (3 + (sealL (insideL m)).length) ++ (sealL (insideL m) ++ r)) := by unfold recB; simp
  obtain ⟨t1, t2, t3⟩ := read_head 165 (3 + (sealL (insideL m)).length) (by omega) (sealL (insideL m)) r (by omega) (by omega)
  have hs3 : ¬ (⟨((165 : UInt8) :: (low 2 (3 + (sealL (insideL m)).length) ++ (sealL (insideL m) ++ r))).toArray⟩ : ByteArray).size < 3 := by
    show ¬ (_ : List UInt8).toArray.size < 3
    simp [low_length] <;> omega
  rw [he]
  unfold getS
  simp only [t1, t2, t3]
  rw [if_neg (by simp), if_neg hs3, if_neg (by rintro (h | ⟨h, _⟩); omega; cases h), if_neg (fun h => h rfl), if_neg (by rintro ⟨h, _⟩; cases h), if_neg (fun h => by cases h), seal_open]
  simp only [hopen]
  rw [if_pos ⟨by rfl, hk, hp⟩, hsz]
theorem get_fill (n : Nat) (h3 : 3 ≤ n) (h : n ≤ 1024) (r : List UInt8) : getS P ⟨((fillB n).data.toList ++ r).toArray⟩ = (fillM n, (n : Int), 0) := by
  have he : (fillB n).data.toList ++ r = (90 : UInt8) :: (low 2 n ++ (List.replicate (n - 3) 0 ++ r)) := by unfold fillB; simp
  obtain ⟨t1, t2, t3⟩ := read_head 90 n (by omega) (List.replicate (n - 3) 0) r (by simp) h3
  have hs3 : ¬ (⟨((90 : UInt8) :: (low 2 n ++ (List.replicate (n - 3) 0 ++ r))).toArray⟩ : ByteArray).size < 3 := by
    show ¬ (_ : List UInt8).toArray.size < 3
    simp [low_length] <;> omega
  have hz : (⟨(List.replicate (n - 3) (0 : UInt8)).toArray⟩ : ByteArray) = zerosB (n - 3) := rfl
  rw [he]
  unfold getS
  simp only [t1, t2, t3]
  rw [if_neg (by simp), if_neg hs3, if_neg (by rintro (h | ⟨_, h⟩) <;> omega), if_neg (fun h => h rfl), hz, zerosB_size, if_neg (by rintro ⟨_, h⟩; exact h rfl), if_pos (by first | rfl | trivial)]
  simp
/-- A record comes back from its bytes, whatever stands behind. -/
theorem put_get (hfit : ∀ m, P m → m.kind ≠ 0 → Fits m) (hz : ∀ m, P m → m.kind = 0 → m = fillM m.body.size) {m : MsgS} (h : (putS P m).2 = 0) (r : List UInt8) :
    getS P ⟨((putS P m).1.data.toList ++ r).toArray⟩ = (m, ((putS P m).1.size : Int), 0) := by
  unfold putS at h ⊢
  by_cases hp : P m
  · rw [if_neg (fun hh => hh hp)] at h ⊢
    by_cases hk : m.kind = 0
    · rw [if_pos hk] at h ⊢
      by_cases hs : 3 ≤ m.body.size ∧ m.body.size ≤ 1024
      · rw [if_pos hs]
        have hm := hz m hp hk
        have hf : (fillB m.body.size).size = m.body.size := by show (_ : List UInt8).toArray.size = _; simp [low_length]; omega
        simp only [hf]
        rw [get_fill m.body.size hs.1 hs.2 r]
        rw [← hm]
      · rw [if_neg hs] at h; cases h
    · rw [if_neg hk] at h ⊢
      exact get_rec hfit hp hk r
  · rw [if_pos hp] at h; cases h
/-- Unlike right records have unlike bytes. -/
theorem put_inj (hfit : ∀ m, P m → m.kind ≠ 0 → Fits m) (hz : ∀ m, P m → m.kind = 0 → m = fillM m.body.size) {a b : MsgS} (ha : (putS P a).2 = 0) (hb : (putS P b).2 = 0) (h : (putS P a).1 = (putS P b).1) : a = b := by
  have h1 := put_get hfit hz ha []
  have h2 := put_get hfit hz hb []
  rw [h, h2] at h1
  simp only [Prod.mk.injEq] at h1
  exact h1.1.symm
/-- Bytes beside a record's, as many, aren't that record. -/
theorem get_turned (h0 : ∀ n, n ≤ 1024 → P (fillM n)) {s : ByteArray} {m x : MsgS} {n : Int} (hp : (putS P m).2 = 0) (hsz : s.size = (putS P m).1.size) (hne : s ≠ (putS P m).1) (h : getS P s = (x, n, 0)) : x ≠ m := fun e => by
  subst e
  obtain ⟨r, _, hb, _⟩ := get_put h0 h
  have : r = [] := List.eq_nil_of_length_eq_zero (by
    have := congrArg List.length hb
    rw [List.length_append, size_toList, size_toList] at this
    omega)
  rw [this, List.append_nil] at hb
  exact hne (ba_ext hb)
end
end Go.Proofs.YtafdfmdcnniccaaGreat.rc
