/- KeyxMost: fewer that are asked for are the first ones of more; of the same key all that is told lies at falling places, if it was added at rising ones: for all lists of keys (those of more than 100 are let by). -/
import Derived.Test.YtjfiglkclpddaaaRows
import Derived.WalkKit
import Derived.ProofKit
import Derived.OpenShut
import Derived.Handy
import Derived.Deep.LoopGhost
import Derived.Lib.Hide
import Derived.Lib.Strings
import Derived.SizedLaws
import Derived.Maps.Own
import Derived.Maps.OwnOps
import Derived.Maps.OwnSet
import Derived.Maps.RangeWalk
import Derived.Deep.QuietTactic
import Derived.BigQuiet
import Derived.Deep.RegionHeld3
import Derived.Lib.ConvBytes
import Derived.Lib.AppendZeros
import Derived.Lib.AppendZerosOnto
import Derived.Lib.LazyBuf
import Derived.Shelf.Abstract
import Derived.LaidEql
import Derived.Lib.SliceRun
import Derived.StillTailTactics
import Derived.Deep.Slices
import Derived.Laws.MakeOwn
import Derived.Shelf.Strings.Builder1
import Derived.Shelf.Small.Bits
import Derived.Shelf.Small.Wraps
import Derived.Shelf.Strings.BuilderF
import Derived.Shelf.Strings.BuilderK
import Derived.Shelf.Strconv.Itoa0
import Derived.Shelf.Sort.Plain
import Derived.Shelf.GgClosure.StringsIndexFunc
import Derived.Ground.GgwProg
import Derived.Shelf.GgClosure.StringsIndexFuncTop
import Derived.Shelf.GgClosure.StringsRunes
import Derived.Shelf.Strings.Prefix
import Derived.Shelf.Strings.BuilderCap
import Derived.Shelf.Slices.In.SortNone
import Derived.Ground.SlgfProg
import Derived.Shelf.SlicesE.IndexFunc
import Derived.Shelf.SlicesE.DeleteFunc
import Derived.Test.YtjfiglkclpddaaaProg
import Derived.Lib.Builder
import Derived.Lib.AppendStr
import Derived.Shelf.SlIter.Nil
import Derived.Ground.GgzProg
import Derived.Shelf.SortM.Plain
import Derived.Shelf.SortM.SortNone
import Derived.Ground.SlgmProg
import Derived.Lib.SmallJoins
import Derived.Test.YtjfiglkclpddaaaPk17
namespace Go.Proofs.Ytjfiglkclpddaaa.kmost
open Go.ChangeShapes Go.WideShapes Go.ChangeAt Go.RowKit
open Go.Proofs.Ytjfiglkclpddaaa.dk Go.Proofs.Ytjfiglkclpddaaa.nm Go.Proofs.Ytjfiglkclpddaaa.kx

theorem lit_cell {w : World} {b : Nat} (h : w.heap[b]? = some (.cells #[.string ⟨#[97]⟩, .string ⟨#[98]⟩, .string ⟨#[99]⟩, .string ⟨#[100]⟩] 9 (0, 0))) (j : Nat) (hj : j < 4) : w.cell? ⟨b, j, none⟩ = some (.string (kq j)) := by
  rw [cell_of h]
  match j, hj with
  | 0, _ => rfl
  | 1, _ => rfl
  | 2, _ => rfl
  | 3, _ => rfl
set_option maxRecDepth 100000 in
theorem index_kq (w : World) (j : Nat) (hj : j < 4) : (Instr.index 9 (.string (kq j)) (.int .i64 0)).run Try.prog w = .ok (.int .u8 (97 + (j : Int))) w := by
  have : j = 0 ∨ j = 1 ∨ j = 2 ∨ j = 3 := by omega
  rcases this with rfl | rfl | rfl | rfl <;> rfl
set_option maxRecDepth 100000 in
set_option maxHeartbeats 8000000 in
theorem walk (W : World) (v : Value) (l : List Int) (r : RowsAt (IntR .u8) 1 W v l) (c1 : Int) (hw1 : (Lit.int .u8 c1).wf = true) (c2 : Int) (hw2 : (Lit.int .u8 c2).wf = true) :
    Calls Try.prog 3 #[v, .int .u8 c1, .int .u8 c2] W fun e W' => e = .returned (.bool true) ∧ Calm W W' := by
  obtain ⟨a, cap, rfl, hml, hel⟩ := r.nums
  have Hel := box hel
  have hc1 : 0 ≤ c1 ∧ c1 ≤ 255 := by unfold Lit.wf at hw1; simp [IntKind.min, IntKind.max, IntKind.bits, IntKind.signed] at hw1; omega
  have hc2 : 0 ≤ c2 ∧ c2 ≤ 255 := by unfold Lit.wf at hw2; simp [IntKind.min, IntKind.max, IntKind.bits, IntKind.signed] at hw2; omega
  clear hw1 hw2 hel r
  obtain ⟨few, rfl⟩ : ∃ n : Nat, c1 = n := ⟨c1.toNat, by omega⟩
  obtain ⟨many, rfl⟩ : ∃ n : Nat, c2 = n := ⟨c2.toNat, by omega⟩
  obtain ⟨m1, hm1⟩ := hc1
  obtain ⟨m2, hm2⟩ := hc2
  clear m1 m2
  have f1 : few ≤ 255 := by omega
  have f2 : many ≤ 255 := by omega
  clear hm1 hm2
  unfold maxLen at hml
  obtain ⟨K, hK⟩ : ∃ K : List Nat, K = l.map Int.toNat := ⟨_, rfl⟩
  have hKl : K.length = l.length := by rw [hK, List.length_map]
  have HKe := box (fun i (hi : i < l.length) (hi' : i < K.length) => (show (l[i] : Int) = ((K[i] : Nat) : Int) ∧ K[i] ≤ 255 from by
    obtain ⟨b, off, _, _, _, q1, q2⟩ := Hel.out i hi
    simp [IntKind.min, IntKind.max, IntKind.bits, IntKind.signed] at q1 q2
    subst hK
    rw [List.getElem_map]
    omega))
  clear hK
  go_enter Try.func3, Try.ntmps3
  go_wp2_with fail
  refine (kx.awake_any _).mono ?_
  rintro e w0 ⟨rfl, hca⟩
  have Cm := box hca
  clear hca
  by_cases hx1 : 100 < l.length
  · go_wp2_with (first | go_quiet (fail) | fail)
    go_ret
    exact ⟨rfl, Cm.out⟩
  · go_wp2_with (first | go_quiet (fail) | fail)
    refine (New_ok _ 1048576).mono ?_
    rintro e w2 ⟨p, F, rfl, h2, hc2, hF2⟩
    have H2 := box h2
    have O2 := box ((Owns.refl w0).new hc2 hF2)
    have hl1 : l.length ≤ 100 := by omega
    clear h2 hc2 hF2
    go_wp2_with fail
    refine (New_step w0 _ 1048576 (by decide) p F H2.out O2.out).mono ?_
    rintro e w3 ⟨x, rfl, hS3⟩
    have S3 := box hS3
    clear hS3
    go_wp2_with fail
    go_loopw [32] (fun i wr => ∃ (k : Nat) (s : List Ln × List Nat), k ≤ l.length ∧ i = .int .i64 k ∧ KxS x p k w0 wr s ∧ MostIs s.1 K k) (fun i _ => l.length - (intOf i).toNat)
    case atStart => exact ⟨0, _, Nat.zero_le _, rfl, S3.out, MostIs.zero K⟩
    case round =>
      clear S3 H2 O2
      obtain ⟨k, s, hk, rfl, hS, hM⟩ := hrel
      have HS := box hS
      have HM := box hM
      clear hS hM
      obtain ⟨wo, hwo⟩ : ∃ wo : World, wo = wr := ⟨_, rfl⟩
      subst hwo
      by_cases hlt : k < l.length
      · obtain ⟨lb, loff, rfl, hlb, hc0, _⟩ := Hel.out k hlt
        have Cw := box (Cm.out.trans HS.out.owns)
        have d0 := (Cw.out.cell (p := ⟨lb, loff + k, none⟩) hlb).trans hc0
        have hlbo := Nat.lt_of_lt_of_le hlb Cw.out.size
        have hkk : k < K.length := by omega
        obtain ⟨he1, he2⟩ := HKe.out k hlt hkk
        have HA := box (most_add HM.out hkk (by omega))
        rw [he1] at d0
        obtain ⟨y, hy⟩ : ∃ y, K[k] = y := ⟨_, rfl⟩
        rw [hy] at HA d0 he2
        have hm4 : Int.tmod (y : Int) 4 = ((y % 4 : Nat) : Int) := by rw [Int.tmod_eq_emod_of_nonneg (by omega)]; omega
        have h4 : y % 4 < 4 := Nat.mod_lt _ (by decide)
        have hw8 : IntKind.u8.wrap (97 + (y : Int) % 4) = 97 + (y : Int) % 4 := IntWalk.u8_in _ (by omega)
        have hconv := conv_one wo (y % 4) (97 + (y : Int) % 4) h4 (by omega)
        have Ha := box ((Calm.refl wo).alloc (.cells #[.int .u8 (97 + (y : Int) % 4)] 5))
        have HSa := box (HS.out.calm Ha.out)
        have hcode := box (most_code (y % 4) k k h4 (by omega) (by omega))
        have hq : (kq (y % 4)).size = 1 := rfl
        clear hc0 he1 hy
        go_wp2_with fail
        refine (Add_step x p k w0 _ s ⟨bA, kq (y % 4), ((10 * k : Nat) : Int), ((k : Nat) : Int)⟩ HSa.out (by omega) (show (1 : Nat) ≤ 255 by decide) (show (1 : Nat) ≤ 255 by decide)).mono ?_
        rw [hcode.out]
        rintro e w6 ⟨rfl, hS6⟩
        have HS6 := box hS6
        clear hS6
        go_wp2_with fail
        go_roundw
        case rel => exact ⟨k + 1, _, by omega, by go_num, HS6.out, HA.out⟩
        case measure => simp [intOf]; omega
      · obtain rfl : k = l.length := by omega
        have HL := box (heap_new wo (.cells #[.string ⟨#[97]⟩, .string ⟨#[98]⟩, .string ⟨#[99]⟩, .string ⟨#[100]⟩] 9))
        have HC0 := box ((Calm.refl wo).alloc (.cells #[.string ⟨#[97]⟩, .string ⟨#[98]⟩, .string ⟨#[99]⟩, .string ⟨#[100]⟩] 9))
        go_wp2_with fail
        obtain ⟨mn, hmn, hmn2⟩ : ∃ mn : Nat, min (few : Int) (many : Int) = (mn : Int) ∧ mn ≤ many := ⟨min few many, by omega, by omega⟩
        go_loopw [51] (fun jv wr => ∃ j : Nat, j ≤ 4 ∧ jv = .int .i64 j ∧ Calm (wo.alloc (.cells #[.string ⟨#[97]⟩, .string ⟨#[98]⟩, .string ⟨#[99]⟩, .string ⟨#[100]⟩] 9)) wr) (fun jv _ => 4 - (intOf jv).toNat)
        case atStart => exact ⟨0, by omega, rfl, Calm.refl _⟩
        case round =>
          obtain ⟨j, hj, rfl, hcal⟩ := hrel
          have HC := box (HC0.out.trans hcal)
          have HA := box hcal
          have jh := heap_calm hcal HL.out
          clear hcal
          obtain ⟨wq, hwq⟩ : ∃ wq : World, wq = wr := ⟨_, rfl⟩
          subst hwq
          by_cases hj4 : j < 4
          · have jc := lit_cell jh j hj4
            have jlt := heap_lt jh
            have HSr := box (HS.out.calm HC.out)
            obtain ⟨L, M, hL, hM, hLl, hM1, hM2, hM3, hM4, hLat⟩ := most_all HM.out j hj4 mn many hmn2
            have HLat := box hLat
            have HM3 := box hM3
            have HM4 := box hM4
            have HM1 := box hM1
            clear jh hLat hM3 hM4 hM1
            go_wp2_with fail
            refine (HSr.out.hits' j many _ (by rfl) hj4 _ HM.out.1 L hL).mono ?_
            rintro e w5 ⟨v5, rfl, hI5, hc5⟩
            obtain ⟨a5, cap5, rfl, ⟨hl5, hk5⟩, _⟩ := id hI5
            have HI5 := box hI5
            have HC5 := box hc5
            have HS5 := box (HSr.out.calm hc5)
            clear hI5 hc5 jc jlt
            go_wp2_with fail
            refine (HS5.out.hits' j mn _ (by rfl) hj4 _ HM.out.1 M hM).mono ?_
            rintro e w6 ⟨v6, rfl, hI6, hc6⟩
            obtain ⟨a6, cap6, rfl, ⟨hl6, hk6⟩, _⟩ := id hI6
            have HI6 := box hI6
            have HI5 := box (HI5.out.calm hc6)
            have HC6 := box (HC5.out.trans hc6)
            have hM1 := HM1.out
            have hk7 : M.length ≤ cap5 := by omega
            unfold maxLen at hl5 hl6
            clear hI6 hc6
            by_cases hq : M.length < mn
            · have hq2 := HM4.out hq
              obtain rfl : L = M := by rw [HM3.out, hq2, List.take_length]
              clear hq2
              have HI7 := HI5
              go_wp2_with (first | go_quiet (fail) | fail)
              refine (Ints_any _ _ L L _ HI6.out HI7.out).mono ?_
              rw [decide_eq_true (rfl : L = L)]
              rintro e w7 ⟨rfl, hc7⟩
              have HI8 := box (HI5.out.calm hc7)
              have HC7 := box (HC6.out.trans hc7)
              clear hc7
              go_wp2_with fail
              go_loopw [122] (fun i wr => ∃ q : Nat, q ≤ L.length ∧ i = .int .i64 q ∧ Calm wq wr ∧ IntsAt wr (.slice a5 L.length cap5) L) (fun i _ => L.length - (intOf i).toNat)
              case atStart => exact ⟨0, by omega, rfl, HC7.out, HI8.out⟩
              case round =>
                clear HI8 HC7 HI7 HI6 HI5 HC6 HC5 HS5 HSr
                obtain ⟨q, hqn, rfl, hcal, hI⟩ := hrel
                have HCr := box hcal
                have HIr := box hI
                obtain ⟨_, _, he, _, hcells⟩ := id hI
                cases he
                clear hcal hI
                obtain ⟨wi, hwi⟩ : ∃ wi : World, wi = wr := ⟨_, rfl⟩
                subst hwi
                by_cases hql : q < L.length
                · obtain ⟨eb, eoff, rfl, helt, hcell⟩ := hcells q hql
                  obtain ⟨i', hi', hx, hmod, hfall⟩ := HLat.out q hql
                  obtain ⟨lb, loff, rfl, hlb, hc0, _⟩ := Hel.out i' (by omega)
                  have Cw := box (Cm.out.trans (HS.out.owns.trans (HC.out.trans HCr.out)))
                  have d0 := (Cw.out.cell (p := ⟨lb, loff + i', none⟩) hlb).trans hc0
                  have hlbo := Nat.lt_of_lt_of_le hlb Cw.out.size
                  rw [(HKe.out i' (by omega) hi').1] at d0
                  rw [hx] at hcell hfall
                  obtain ⟨y, hy⟩ : ∃ y, K[i'] = y := ⟨_, rfl⟩
                  rw [hy] at d0 hmod
                  have hquo : Int.tdiv (((10 * i' : Nat)) : Int) 10 = (i' : Int) := by rw [Int.tdiv_eq_ediv_of_nonneg (by omega)]; omega
                  have hrem : Int.tmod (y : Int) 4 = (j : Int) := by rw [Int.tmod_eq_emod_of_nonneg (by omega)]; omega
                  have hidx := fun w => index_kq w j hj4
                  have hw9 : IntKind.u8.wrap ((97 + j : Int) - 97) = (j : Int) := by rw [show (97 + j : Int) - 97 = j by omega]; exact IntWalk.u8_in _ (by omega)
                  have hdv : IntKind.i64.wrap (i' : Int) = (i' : Int) := IntWalk.i64_in _ (by omega)
                  cases q with
                  | zero =>
                    clear hfall hcells hc0 hy
                    rw [Nat.add_zero] at hcell
                    go_wp2_with (first | go_quiet (fail) | fail)
                    go_roundw
                    case rel => exact ⟨1, by omega, by go_num, HCr.out.drewN _, HIr.out.calm ((Calm.refl _).drewN _)⟩
                    case measure => simp [intOf]; omega
                  | succ r =>
                    obtain ⟨pb, poff, he2, hpb, hpcell⟩ := hcells r (by omega)
                    cases he2
                    have hf := hfall (Nat.succ_pos r)
                    simp only [Nat.add_sub_cancel] at hf
                    obtain ⟨z, hz⟩ : ∃ z, L[r]'(by omega) = z := ⟨_, rfl⟩
                    rw [hz] at hpcell hf
                    have hw1 : IntKind.i64.wrap (((r + 1 : Nat) : Int) - 1) = (r : Int) := by rw [show ((r + 1 : Nat) : Int) - 1 = r by omega]; exact IntWalk.i64_in _ (by omega)
                    clear hfall hcells hc0 hy hz
                    go_wp2_with (first | go_quiet (fail) | fail)
                    go_roundw
                    case rel => exact ⟨r + 1 + 1, by omega, by go_num, HCr.out.drewN _, HIr.out.calm ((Calm.refl _).drewN _)⟩
                    case measure => simp [intOf]; omega
                · obtain rfl : q = L.length := by omega
                  go_wp2_with fail
                  go_roundw
                  case rel => exact ⟨j + 1, by omega, by go_num, HA.out.trans HCr.out⟩
                  case measure => simp [intOf]; omega
            · have HI7 := box (show IntsAt w6 (.slice a5 M.length cap5) M by have := ints_take HI5.out M.length hM2; rwa [← HM3.out] at this)
              go_wp2_with (first | go_quiet (fail) | fail)
              refine (Ints_any _ _ M M _ HI6.out HI7.out).mono ?_
              rw [decide_eq_true (rfl : M = M)]
              rintro e w7 ⟨rfl, hc7⟩
              have HI8 := box (HI5.out.calm hc7)
              have HC7 := box (HC6.out.trans hc7)
              clear hc7
              go_wp2_with fail
              go_loopw [122] (fun i wr => ∃ q : Nat, q ≤ L.length ∧ i = .int .i64 q ∧ Calm wq wr ∧ IntsAt wr (.slice a5 L.length cap5) L) (fun i _ => L.length - (intOf i).toNat)
              case atStart => exact ⟨0, by omega, rfl, HC7.out, HI8.out⟩
              case round =>
                clear HI8 HC7 HI7 HI6 HI5 HC6 HC5 HS5 HSr
                obtain ⟨q, hqn, rfl, hcal, hI⟩ := hrel
                have HCr := box hcal
                have HIr := box hI
                obtain ⟨_, _, he, _, hcells⟩ := id hI
                cases he
                clear hcal hI
                obtain ⟨wi, hwi⟩ : ∃ wi : World, wi = wr := ⟨_, rfl⟩
                subst hwi
                by_cases hql : q < L.length
                · obtain ⟨eb, eoff, rfl, helt, hcell⟩ := hcells q hql
                  obtain ⟨i', hi', hx, hmod, hfall⟩ := HLat.out q hql
                  obtain ⟨lb, loff, rfl, hlb, hc0, _⟩ := Hel.out i' (by omega)
                  have Cw := box (Cm.out.trans (HS.out.owns.trans (HC.out.trans HCr.out)))
                  have d0 := (Cw.out.cell (p := ⟨lb, loff + i', none⟩) hlb).trans hc0
                  have hlbo := Nat.lt_of_lt_of_le hlb Cw.out.size
                  rw [(HKe.out i' (by omega) hi').1] at d0
                  rw [hx] at hcell hfall
                  obtain ⟨y, hy⟩ : ∃ y, K[i'] = y := ⟨_, rfl⟩
                  rw [hy] at d0 hmod
                  have hquo : Int.tdiv (((10 * i' : Nat)) : Int) 10 = (i' : Int) := by rw [Int.tdiv_eq_ediv_of_nonneg (by omega)]; omega
                  have hrem : Int.tmod (y : Int) 4 = (j : Int) := by rw [Int.tmod_eq_emod_of_nonneg (by omega)]; omega
                  have hidx := fun w => index_kq w j hj4
                  have hw9 : IntKind.u8.wrap ((97 + j : Int) - 97) = (j : Int) := by rw [show (97 + j : Int) - 97 = j by omega]; exact IntWalk.u8_in _ (by omega)
                  have hdv : IntKind.i64.wrap (i' : Int) = (i' : Int) := IntWalk.i64_in _ (by omega)
                  cases q with
                  | zero =>
                    clear hfall hcells hc0 hy
                    rw [Nat.add_zero] at hcell
                    go_wp2_with (first | go_quiet (fail) | fail)
                    go_roundw
                    case rel => exact ⟨1, by omega, by go_num, HCr.out.drewN _, HIr.out.calm ((Calm.refl _).drewN _)⟩
                    case measure => simp [intOf]; omega
                  | succ r =>
                    obtain ⟨pb, poff, he2, hpb, hpcell⟩ := hcells r (by omega)
                    cases he2
                    have hf := hfall (Nat.succ_pos r)
                    simp only [Nat.add_sub_cancel] at hf
                    obtain ⟨z, hz⟩ : ∃ z, L[r]'(by omega) = z := ⟨_, rfl⟩
                    rw [hz] at hpcell hf
                    have hw1 : IntKind.i64.wrap (((r + 1 : Nat) : Int) - 1) = (r : Int) := by rw [show ((r + 1 : Nat) : Int) - 1 = r by omega]; exact IntWalk.i64_in _ (by omega)
                    clear hfall hcells hc0 hy hz
                    go_wp2_with (first | go_quiet (fail) | fail)
                    go_roundw
                    case rel => exact ⟨r + 1 + 1, by omega, by go_num, HCr.out.drewN _, HIr.out.calm ((Calm.refl _).drewN _)⟩
                    case measure => simp [intOf]; omega
                · obtain rfl : q = L.length := by omega
                  go_wp2_with fail
                  go_roundw
                  case rel => exact ⟨j + 1, by omega, by go_num, HA.out.trans HCr.out⟩
                  case measure => simp [intOf]; omega
          · obtain rfl : j = 4 := by omega
            go_wp2_with fail
            go_ret
            exact ⟨rfl, (Cm.out.trans HS.out.owns).trans HC.out⟩
theorem own : ownKnob Try.prog.godebug = none := by kernel_rfl
theorem laidOut : laidOutB Try.prog = true := by kernel_rfl
set_option maxRecDepth 100000 in
set_option linter.unusedVariables false in
theorem lifted (os : Os) (started : os.Started) (H : Type) (enc : TypeId × Value → H) :
    ReturnsInHanded {} Try.checked os 3 .any (Rows.keyxMostSpec.pre6 enc Try.prog Try.f3 Rows.keyxMostRow.domain false) (Rows.keyxMostSpec.post enc Try.prog Try.f3 false true false false) := by
  refine returnsInHanded_of_change_sized (C := Try.checked) own started (by kernel_rfl) Try.func3
    (ChangeSpec.witness6 (enc := enc) (C := Try.checked) false ⟨#[], #[.slice none 0 0, .int .u8 0, .int .u8 0], []⟩ 8 (by kernel_rfl) (by kernel_rfl) (by kernel_rfl) (by kernel_rfl)) ?_
  intro W base args ds gs before hval0 hW hcnd hsz0 _
  have hsz : (DataW.weightsEach Try.prog (Try.f3.params.toList ++ []) (ds ++ gs)).all (· ≤ reachBytes) = true := hsz0
  clear hsz0
  have hval : ∀ (j : Nat) t v, Try.f3.params[j]? = some t → args[j]? = some v → Value.okWide Try.prog W .any base t v := hval0
  have hW' := hW
  obtain ⟨p, q, hA0, hV, rfl, hfz, hnd⟩ := hW
  have hA : DataW.TrodAll enc Try.prog W 0 (fun _ => true) true Try.f3.params.toList args.toList ds p := hA0
  rw [Try.params3] at hA hval hsz
  obtain ⟨v0, vs0, d0, ds0, p0, q0, hargs, rfl, rfl, h0, r0'⟩ := trodAll_cons hA
  obtain ⟨v1, vs1, d1, ds1, p1, q1, rfl, rfl, rfl, h1, r1'⟩ := trodAll_cons r0'
  obtain ⟨v2, vs2, d2, ds2, p2, q2, rfl, rfl, rfl, h2, r2'⟩ := trodAll_cons r1'
  obtain ⟨rfl, rfl, rfl⟩ := trodAll_nil r2'
  obtain rfl : args = #[v0, v1, v2] := by cases args; simp_all
  obtain ⟨rfl, rfl⟩ := trodVars_none hV
  clear hA0 hval0
  have wt0 := fun n hn => (by simpa using List.all_eq_true.1 hsz n (DataW.weights_mem_each (j := 0) rfl rfl n hn) : n ≤ reachBytes)
  have wt1 := fun n hn => (by simpa using List.all_eq_true.1 hsz n (DataW.weights_mem_each (j := 1) rfl rfl n hn) : n ≤ reachBytes)
  have wt2 := fun n hn => (by simpa using List.all_eq_true.1 hsz n (DataW.weights_mem_each (j := 2) rfl rfl n hn) : n ≤ reachBytes)
  have hlt : ∀ x ∈ p0 ++ (p1 ++ (p2 ++ [])), x.block < W.heap.size := fun x hx => by have := hW'.lt x (by simpa using hx); simpa using this
  obtain ⟨l0, r0⟩ := slice_arg Try.underlying22 (hval 0 22 v0 rfl rfl) ((opens_slice (c := 1) Try.underlying22 (by kernel_rfl) (by decide) (opens_int Try.underlying5)).arg h0)
  obtain ⟨a1, e1, _, _, w1⟩ := open_int Try.underlying5 (hval 1 5 v1 rfl rfl) h1
  subst e1
  obtain ⟨a2, e2, _, _, w2⟩ := open_int Try.underlying5 (hval 2 5 v2 rfl rfl) h2
  subst e2
  refine (walk W v0 l0 r0 a1 w1 a2 w2).mono fun e W' ⟨he, hg⟩ => ?_
  subst he
  refine ⟨_, rfl, _, _, _, [] ++ [], p0 ++ (p1 ++ (p2 ++ [])), [], hW', ?_, ?_, ?_, hg.frame _, fun h => by cases h⟩
  · exact trodAll_mk1 (shut_bool Try.underlying4 true)
  · exact trodAll_cons_mk (Below.trod laidOut (by kernel_rfl) (of_decide_eq_true (by kernel_rfl)) h0 hg (fun x hx => hlt x (by simp [hx]))) (trodAll_cons_mk (Below.trod laidOut (by kernel_rfl) (of_decide_eq_true (by kernel_rfl)) h1 hg (fun x hx => hlt x (by simp [hx]))) (trodAll_cons_mk (Below.trod laidOut (by kernel_rfl) (of_decide_eq_true (by kernel_rfl)) h2 hg (fun x hx => hlt x (by simp [hx]))) (trodAll_mk0)))
  · exact rfl

theorem over : Rows.keyxMostRow.holds Try.pinned (OpenSpec.ofChange Rows.keyxMostSpec) :=
  OpenClaim.holds_of_wide 3 Try.f3 rfl rfl rfl rfl rfl rfl rfl ⟨rfl, rfl, rfl, rfl, rfl⟩ rfl rfl rfl rfl rfl (by kernel_rfl) Try.func3 (by kernel_rfl)
    (of_decide_eq_true (by kernel_rfl)) (by unfold Func.isWrapper; first | (rw [if_pos (by decide +kernel)]; kernel_rfl) | (rw [if_neg (by decide +kernel)]; exact ⟨rfl, rfl⟩))
    (fun os started H enc _ => lifted os started H enc)

theorem proved : Rows.KeyxMostSaid := over
#print axioms proved
end Go.Proofs.Ytjfiglkclpddaaa.kmost
