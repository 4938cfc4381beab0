/- SegAgain: a row that is opened anew is the same; what a crash leaves of it has all that was synced, and else its bytes, or noughts. The card is tied. No condition. -/
import Derived.Test.YtafdfmdcnniccaaGreatDoorRows
import Derived.WalkKit
import Derived.ProofKit
import Derived.OpenShut
import Derived.Handy
import Derived.Deep.LoopGhost
import Derived.Lib.Hide
import Derived.Lib.Strings
import Derived.SizedLaws
import Derived.Maps.Own
import Derived.Maps.OwnOps
import Derived.Maps.OwnSet
import Derived.Maps.RangeWalk
import Derived.Deep.QuietTactic
import Derived.BigQuiet
import Derived.Deep.RegionHeld3
import Derived.Lib.ConvBytes
import Derived.Lib.AppendZeros
import Derived.Lib.AppendZerosOnto
import Derived.Lib.LazyBuf
import Derived.Shelf.Abstract
import Derived.LaidEql
import Derived.Lib.SliceRun
import Derived.StillTailTactics
import Derived.Deep.Slices
import Derived.Outline
import Derived.Lib.Atoi
import Derived.Lib.ItoaNum
import Derived.Lib.SlTrimSet
import Derived.Shelf.SlIter.Nil
import Derived.Ground.GgzProg
import Derived.Shelf.SortM.Plain
import Derived.Shelf.SortM.SortNone
import Derived.Ground.SlgmProg
import Derived.Shelf.SlicesE.DeleteFunc
import Derived.Ground.SlgfProg
import Derived.Test.YtafdfmdcnniccaaGreatDoorProg
import Derived.Shelf.Strings.Builder1
import Derived.Shelf.Strings.Builder2
import Derived.Shelf.Strings.Trim
import Derived.Shelf.Small.Utf8
import Derived.Shelf.Small.Bits
import Derived.Shelf.Small.Strs
import Derived.Shelf.Small.Wraps
import Derived.Shelf.Strings.BuilderF
import Derived.Shelf.Strings.BuilderK
import Derived.Shelf.Strings.Builder2Cap
import Derived.Shelf.Strconv.Atoi
import Derived.Shelf.Strconv.Itoa0
import Derived.Shelf.Strconv.Itoa1
import Derived.Shelf.LaysM
import Derived.Shelf.Strconv.Itoa2
import Derived.Shelf.Strconv.Itoa3
import Derived.Shelf.Strings.Search1
import Derived.Shelf.Sort.Plain
import Derived.Shelf.Strings.Prefix
import Derived.Shelf.Strings.Runes
import Derived.Shelf.Strings.AsciiSet
import Derived.Shelf.Bits.Mul64
import Derived.Shelf.Strings.Repeat
import Derived.Shelf.Unicode.DecodeSlow
import Derived.Shelf.Unicode.DecodeAny
import Derived.Shelf.Unicode.DecodeLast
import Derived.Shelf.Strings.BuilderCap
import Derived.Ground.Names2Prog
import Derived.Shelf.Slices.Clone
import Derived.Shelf.Slices.In.SortNone
import Derived.Ground.SlgnProg
import Derived.Shelf.SlicesE.Clone
import Derived.Shelf.SlicesE.IndexFunc
import Derived.Shelf.Strings.SlTrimAscii
import Derived.Lib.Repeat
import Derived.Lib.LaidTab
import Derived.Deep.RegionLaw
import Derived.Deep.RegionWith
import Derived.Lib.AtoiErrMem
import Derived.Test.YtafdfmdcnniccaaGreatDoorTie
import Derived.Test.YtafdfmdcnniccaaGreatDoorCards
import Derived.LaidMore
import Derived.Lay
import Derived.SevenTiedAt
import Derived.HandedShaped
import Derived.Stop.Joined
import Derived.Shelf.Vars
import Derived.Stop.LaidErr
import Derived.Test.YtafdfmdcnniccaaGreatDoorPk24
namespace Go.Proofs.YtafdfmdcnniccaaGreatDoor.sagain
open Go.ChangeShapes Go.WideShapes Go.ChangeAt Go.RowKit
open Go.Proofs.YtafdfmdcnniccaaGreatDoor.dk Go.Proofs.YtafdfmdcnniccaaGreatDoor.sg

set_option maxRecDepth 100000 in
set_option maxHeartbeats 16000000 in
theorem walk (W : World) (ht : Tab W) (v0 : Value) (l : List ByteArray) (r0 : StrsAt W v0 l) (z0 : ∀ s ∈ l, s.size ≤ reachBytes) (n0 : l.length ≤ maxLen) (sy : Int) (hsy : (Lit.int .u8 sy).wf = true) (y : PlanS × Value) (rp : RowsAt BoolR 1 W y.2 y.1.keep) :
    Calls Tryz.prog 4 #[v0, .int .u8 sy, .agg #[y.2, .int .i64 y.1.lack]] W fun e W' => e = .returned (.bool true) ∧ Calm W W' := by
  obtain ⟨la, lcap, rfl, hle⟩ := r0.uni
  obtain ⟨⟨keep, lack⟩, kv⟩ := y
  simp only at rp ⊢
  obtain ⟨ka, kcap, rfl, hkc, _⟩ := RowsAt_bools rp
  obtain ⟨t, rfl, ht8⟩ : ∃ t : Nat, sy = t ∧ t < 256 := by
    unfold Lit.wf at hsy; simp [IntKind.min, IntKind.max, IntKind.bits, IntKind.signed] at hsy; exact ⟨sy.toNat, by omega, by omega⟩
  have Hle := box r0
  have Hkr := box rp
  have HT := box ht
  have hna := heap_new W (.cells #[.slice ka keep.length kcap, .int .i64 lack] 44)
  have hc0 := (Calm.refl W).alloc (.cells #[.slice ka keep.length kcap, .int .i64 lack] 44)
  have haw := box (awake_any _ (tab_calm ht hc0))
  have Hna := box hna
  have HC0 := box hc0
  clear ht r0 rp hle hsy hna hc0 z0
  unfold maxLen at n0
  go_enter Tryz.func4, Tryz.ntmps4
  go_wp2_with fail
  refine haw.out.mono ?_
  rintro e w1 ⟨rfl, hca⟩
  have O1 := box (HC0.out.trans hca)
  have P1 := heap_calm hca Hna.out
  have Hp1 := box P1
  have c0 := cell_of P1 0
  have plt := heap_lt P1
  clear hca P1 HC0 Hna haw
  by_cases h60 : 60 < l.length
  · have t1 : decide ((60 : Int) < (l.length : Int)) = true := decide_eq_true (by omega)
    go_wp2_with fail
    go_ret
    exact ⟨rfl, O1.out⟩
  have t1 : decide ((60 : Int) < (l.length : Int)) = false := decide_eq_false (by omega)
  by_cases h100 : 100 < keep.length
  · have t2 : decide ((100 : Int) < (keep.length : Int)) = true := decide_eq_true (by omega)
    go_wp2_with fail
    go_ret
    exact ⟨rfl, O1.out⟩
  have t2 : decide ((100 : Int) < (keep.length : Int)) = false := decide_eq_false (by omega)
  have hl60 : l.length ≤ 60 := by omega
  have hk100 : keep.length ≤ 100 := by omega
  go_wp2_with fail
  refine (New_ok _ 1048576).mono ?_
  rintro e w2 ⟨p, F2, rfl, hd2, hc2, hF2⟩
  have hop := box (open_new (c := 1048576) (n := 0) hd2 HT.out (O1.out.trans hc2) (fun b hb => Nat.le_trans O1.out.size (hF2 b hb)) (by decide) (by decide) rN 16 (by decide) (by decide))
  have Hd2 := box hd2
  have Hp2 := box (heap_calm hc2 Hp1.out)
  clear hd2 hc2 hF2 c0 plt Hp1 h60 h100 n0
  go_wp2_with fail
  refine hop.out.mono ?_
  rintro e w3 ⟨r, F3, v3, rfl, hr3, hL3, hv3, hs3⟩
  have HS3 := box (show St W W.heap.size #[.slice ka keep.length kcap, .int .i64 lack] p r 0 0 t 0 ⟨#[]⟩ w3 from ⟨by unfold PlanAt; rw [hs3.keeps.block _ (heap_lt Hp2.out) (plan_apart (show PlanAt w2 _ _ from Hp2.out) Hd2.out)]; exact Hp2.out, 0, _, _, F3, v3, hL3, ⟨fun f hf => (by cases hf), fun i hi => absurd hi (Nat.not_lt_zero _)⟩, ⟨rfl, rfl, rfl, rfl⟩, by omega, by omega, by decide, by decide, by omega, fun _ => rfl⟩)
  clear hr3 hL3 hv3 hs3 hop Hd2 Hp2 O1
  go_wp2_with fail
  go_loopw [10, 11, 46] (fun av sv iv wr => ∃ (k sf : Nat) (al : ByteArray), k ≤ l.length ∧ av = .string al ∧ sv = .int .i64 (sf : Int) ∧ iv = .int .i64 (k : Int) ∧ Box (St W W.heap.size #[.slice ka keep.length kcap, .int .i64 lack] p r k k t sf al wr)) (fun _ _ iv _ => l.length - (intOf iv).toNat)
  case atStart => exact ⟨0, 0, _, Nat.zero_le _, rfl, rfl, rfl, HS3⟩
  case round =>
    obtain ⟨k, sf, al, hk, rfl, rfl, rfl, HS⟩ := hrel
    obtain ⟨wo, hwo⟩ : ∃ wo : World, wo = wr := ⟨_, rfl⟩
    subst hwo
    by_cases hlt : k < l.length
    · have t3 : decide ((k : Int) < (l.length : Int)) = true := decide_eq_true (by omega)
      obtain ⟨_, _, he, hel⟩ := StrsAt.uni (Hle.out.calm HS.out.owns)
      cases he
      obtain ⟨lb, loff, rfl, hlb, d0⟩ := hel k hlt
      obtain ⟨s, hs⟩ : ∃ s, l.getD k ByteArray.empty = s := ⟨_, rfl⟩
      rw [hs] at d0
      clear hel hs
      by_cases h16 : 16 < s.size
      · have t4 : decide ((16 : Int) < (s.size : Int)) = true := decide_eq_true (by omega)
        go_wp2_with fail
        go_ret
        exact ⟨rfl, HS.out.owns⟩
      have t4 : decide ((16 : Int) < (s.size : Int)) = false := decide_eq_false (by omega)
      have hal : al.size ≤ 960 := by
        obtain ⟨m, D, R, F, v, h1, h2, h3, h4, h5, h6, h7, h8, h9⟩ := HS.out.at_
        omega
      have happ := box (HS.out.append s (by omega) (by omega) (by omega))
      have hs16 : s.size ≤ 16 := by omega
      clear h16
      by_cases hsy : k = t
      · subst hsy
        have t5 : ((k : Int) == (k : Int)) = true := beq_iff_eq.2 rfl
        go_wp2_with fail
        refine happ.out.mono ?_
        rintro e w5 (⟨rfl, hm⟩ | ⟨rfl, hm⟩)
        · have HM := box (hm.sync rfl)
          clear hm happ
          go_wp2_with fail
          refine HM.out.mono ?_
          rintro e w6 ⟨rfl, hz⟩
          have HZ := box hz
          clear hz HM
          go_wp2_with fail
          go_roundw
          case rel => exact ⟨k + 1, al.size, al, by omega, rfl, rfl, by go_num, HZ⟩
          case measure => simp [intOf]; omega
        · have HM := box (hm.sync rfl)
          clear hm happ
          obtain ⟨al2, hal2⟩ : ∃ al2, al ++ s = al2 := ⟨_, rfl⟩
          rw [hal2] at HM
          go_wp2_with fail
          refine HM.out.mono ?_
          rintro e w6 ⟨rfl, hz⟩
          have HZ := box hz
          clear hz HM
          go_wp2_with fail
          go_roundw
          case rel => exact ⟨k + 1, al2.size, al2, by omega, rfl, rfl, by go_num, HZ⟩
          case measure => simp [intOf]; omega
      · have t5 : ((k : Int) == (t : Int)) = false := beq_eq_false_iff_ne.2 (by omega)
        have t5b : (k == t) = false := beq_eq_false_iff_ne.2 hsy
        clear hsy
        go_wp2_with fail
        refine happ.out.mono ?_
        rintro e w5 (⟨rfl, hm⟩ | ⟨rfl, hm⟩)
        · have HM := box hm
          clear hm happ
          go_wp2_with fail
          go_roundw
          case rel => exact ⟨k + 1, sf, al, by omega, rfl, rfl, by go_num, box HM.out.skip⟩
          case measure => simp [intOf]; omega
        · have HM := box hm
          clear hm happ
          go_wp2_with fail
          go_roundw
          case rel => exact ⟨k + 1, sf, al ++ s, by omega, rfl, rfl, by go_num, box HM.out.skip⟩
          case measure => simp [intOf]; omega
    · have t3 : decide ((k : Int) < (l.length : Int)) = false := decide_eq_false (by omega)
      obtain ⟨n, hn⟩ : ∃ n, k = n := ⟨_, rfl⟩
      rw [hn] at HS
      have hal : al.size ≤ 960 := by
        obtain ⟨m, D, R, F, v, h1, h2, h3, h4, h5, h6, h7, h8, h9⟩ := HS.out.at_
        omega
      have Hp1 := box (show PlanAt wo W.heap.size #[.slice ka keep.length kcap, .int .i64 lack] from HS.out.plan)
      clear Hle hn
      go_wp2_with fail
      go_loopw [16] (fun iv wr => ∃ (q r : Nat), q ≤ 2 ∧ iv = .int .i64 (q : Int) ∧ Box (St W W.heap.size #[.slice ka keep.length kcap, .int .i64 lack] p r n n t sf al wr)) (fun iv _ => 2 - (intOf iv).toNat)
      case atStart => exact ⟨0, r, by decide, rfl, HS⟩
      case round =>
        clear HS Hp1
        obtain ⟨q, r, hq, rfl, HS⟩ := hrel
        obtain ⟨wo, hwo⟩ : ∃ wo : World, wo = wr := ⟨_, rfl⟩
        subst hwo
        by_cases hq2 : q < 2
        · have t6 : decide ((q : Int) < 2) = true := decide_eq_true (by omega)
          have hop := box HS.out.open
          clear HS
          go_wp2_with fail
          refine hop.out.mono ?_
          rintro e w5 ⟨r5, rfl, hz⟩
          have HZ := box hz
          clear hz hop
          go_wp2_with fail
          refine HZ.out.begin.mono ?_
          rintro e wu ⟨rfl, rfl⟩
          go_wp2_with fail
          refine HZ.out.end_.mono ?_
          rintro e wu ⟨rfl, rfl⟩
          go_wp2_with fail
          go_roundw
          case rel => exact ⟨q + 1, r5, by omega, by go_num, HZ⟩
          case measure => simp [intOf]; omega
        · have t6 : decide ((q : Int) < 2) = false := decide_eq_false (by omega)
          have q1 : wo.heap[W.heap.size]? = some (Obj.cells #[.slice ka keep.length kcap, .int .i64 lack] 44 (0, 0)) := HS.out.plan
          have q10 := cell_of q1 0
          have q11 := cell_of q1 1
          have qlt := heap_lt q1
          have hcr := box (HS.out.crash ka kcap keep lack Hkr.out (by omega))
          clear HS Hkr q1
          go_wp2_with fail
          refine hcr.out.mono ?_
          rintro e w5 ⟨rfl, hz⟩
          have hop := box (hz.open hal)
          clear hz hcr q10 q11 qlt
          go_wp2_with fail
          refine hop.out.mono ?_
          rintro e w6 ⟨rx, b, rfl, hz⟩
          have HR := box hz
          have b1 := hz.least
          have b2 := hz.most
          have t7 : decide (b.length < sf) = false := decide_eq_false (by omega)
          have t8 : decide (al.size < b.length) = false := decide_eq_false (by omega)
          clear hz hop
          go_wp2_with fail
          refine HR.out.end_.mono ?_
          rintro e wu ⟨rfl, rfl⟩
          go_wp2_with fail
          refine HR.out.end_.mono ?_
          rintro e wu ⟨rfl, rfl⟩
          go_wp2_with fail
          go_loopw [21] (fun iv wr => ∃ (q j : Nat), Box (q = 16 * j) ∧ q ≤ 1000 ∧ iv = .int .i64 (q : Int) ∧ Box (Rd W p rx sf al b wr)) (fun iv _ => 1000 - (intOf iv).toNat)
          case atStart => exact ⟨0, 0, box rfl, by decide, rfl, HR⟩
          case round =>
            clear HR
            obtain ⟨q, j, hqj, hq, rfl, HR⟩ := hrel
            obtain ⟨wo, hwo⟩ : ∃ wo : World, wo = wr := ⟨_, rfl⟩
            subst hwo
            go_wp2_with fail
            refine HR.out.end_.mono ?_
            rintro e wu ⟨rfl, rfl⟩
            by_cases hqb : q < b.length
            · have t9 : decide ((q : Int) < (b.length : Int)) = true := decide_eq_true (by omega)
              obtain ⟨z, hz⟩ : ∃ z, min 16 (b.length - 16 * j) = z := ⟨_, rfl⟩
              have hleft := HR.out.left j (by have := hqj.out; omega)
              have hqj' := hqj.out
              have hread := fun (w' : World) (hc : Calm wo w') => (HR.out.calm hc).read j (by omega)
              have hbyte := HR.out.byte j
              rw [hz, ← hqj'] at hleft
              rw [hz, ← hqj'] at hread
              obtain ⟨S, hS⟩ : ∃ S, bA ((b.drop q).take z) = S := ⟨_, rfl⟩
              rw [hz, ← hqj', hS] at hbyte
              rw [hS] at hread
              have hSz0 : S.size = z := by rw [← hS, bA_size, List.length_take, List.length_drop]; omega
              have hSz := box hSz0
              clear hSz0
              have hz16 : z ≤ 16 ∧ q + z ≤ b.length := by omega
              have Hleft := box hleft
              have Hread := box hread
              have Hbyte := box hbyte
              clear hleft hread hbyte hS hz hqj'
              go_wp2_with fail
              refine Hleft.out.mono ?_
              rintro e w7 ⟨rfl, hc7⟩
              have HR7 := box (HR.out.calm hc7)
              have Hread7 := box (Hread.out w7 hc7)
              clear hc7 HR Hread Hleft
              go_wp2_with fail
              refine Hread7.out.mono ?_
              rintro e w8 ⟨rfl, hc8⟩
              have HR8 := box (HR7.out.calm hc8)
              clear hc8 HR7 Hread7
              go_wp2_with fail
              go_loopw [140] (fun iv wr => ∃ i : Nat, i ≤ z ∧ iv = .int .i64 (i : Int) ∧ Box (Rd W p rx sf al b wr)) (fun iv _ => z - (intOf iv).toNat)
              case atStart => exact ⟨0, Nat.zero_le _, rfl, HR8⟩
              case round =>
                clear HR8
                obtain ⟨i, hi, rfl, HR⟩ := hrel
                obtain ⟨wo, hwo⟩ : ∃ wo : World, wo = wr := ⟨_, rfl⟩
                subst hwo
                by_cases hiz : i < z
                · have u1 : i < S.size := by have := hSz.out; omega
                  obtain ⟨x, y, hx, hy, i1, i2, hxy⟩ := Hbyte.out i (by omega) (by omega)
                  have i3 : ∀ w0 : World, (Instr.index 9 (.string al) (.int .i64 ((q : Int) + (i : Int)))).run Tryz.prog w0 = .ok (.int .u8 (y : Int)) w0 := fun w0 => by
                    have := i2 w0
                    rwa [show ((q + i : Nat) : Int) = (q : Int) + (i : Int) by omega] at this
                  have wq : IntKind.i64.wrap ((q : Int) + (i : Int)) = (q : Int) + (i : Int) := IntWalk.i64_in _ (by omega)
                  have wi : IntKind.i64.wrap (i : Int) = (i : Int) := IntWalk.i64_in _ (by omega)
                  clear i2
                  rcases hxy with hxy | ⟨hx0, hsf⟩
                  · subst hxy
                    have u3 : ((x : Int) == (x : Int)) = true := beq_self_eq_true _
                    have u4 : ((x : Int) != (x : Int)) = false := by simp
                    clear hqj
                    go_wp2_with (first | go_quiet (fail) | fail)
                    go_roundw
                    case rel => exact ⟨i + 1, by omega, by go_num, box (HR.out.calm ((Calm.refl _).drewN _))⟩
                    case measure => simp [intOf]; omega
                  · subst hx0
                    have u2 : decide ((q : Int) + (i : Int) < (sf : Int)) = false := decide_eq_false (by have := hqj.out; omega)
                    by_cases hy0 : y = 0
                    · subst hy0
                      go_wp2_with (first | go_quiet (fail) | fail)
                      go_roundw
                      case rel => exact ⟨i + 1, by omega, by go_num, box (HR.out.calm ((Calm.refl _).drewN _))⟩
                      case measure => simp [intOf]; omega
                    · have u3 : ((0 : Int) == (y : Int)) = false := beq_eq_false_iff_ne.2 (by omega)
                      have u4 : ((0 : Int) != (y : Int)) = true := bne_iff_ne.2 (by omega)
                      go_wp2_with (first | go_quiet (fail) | fail)
                      go_roundw
                      case rel => exact ⟨i + 1, by omega, by go_num, box (HR.out.calm ((Calm.refl _).drewN _))⟩
                      case measure => simp [intOf]; omega
                · have u1 : ¬ i < S.size := by have := hSz.out; omega
                  go_wp2_with fail
                  go_roundw
                  case rel => exact ⟨q + 16, j + 1, box (by have := hqj.out; omega), by omega, by go_num, HR⟩
                  case measure => simp [intOf]; omega
            · have t9 : decide ((q : Int) < (b.length : Int)) = false := decide_eq_false (by omega)
              go_wp2_with fail
              go_ret
              exact ⟨rfl, HR.out.owns⟩

abbrev LAIDS : List (String × DataW Unit) := [("math/bits.deBruijn32tab", Rows.laid_math_bits_deBruijn32tab), ("math/bits.deBruijn64tab", Rows.laid_math_bits_deBruijn64tab), ("internal/strconv.uint64pow10", Rows.laid_internal_strconv_uint64pow10), ("unicode/utf8.acceptRanges", Rows.laid_unicode_utf8_acceptRanges), ("strconv.ErrRange", Rows.laid_strconv_ErrRange), ("strconv.ErrSyntax", Rows.laid_strconv_ErrSyntax), ("unicode/utf8.first", Rows.laid_unicode_utf8_first)]
theorem own : ownKnob Tryz.prog.godebug = none := by kernel_rfl
theorem laidOut : laidOutB Tryz.prog = true := by kernel_rfl
set_option maxRecDepth 100000 in
set_option linter.unusedVariables false in
theorem lifted (os : Os) (started : os.Started) (H : Type) (enc : TypeId × Value → H) :
    ReturnsInHanded {} Tryz.checked os 4 .any (fun w args => (Rows.segAgainSpec.pre enc Tryz.prog Tryz.f4 Rows.segAgainRow.domain false w args ∧ laidMetH Tryz.prog LAIDS w) ∧ sizedMet enc Tryz.prog Tryz.f4 (OpenSpec.ofChange Rows.segAgainSpec) false w args) (Rows.segAgainSpec.post enc Tryz.prog Tryz.f4 false true false false) := by
  refine handed_and_shaped (C := Tryz.checked) (X := fun w _ => laidMetH Tryz.prog LAIDS w) (fun _ _ _ hh h => h.of_heap hh) own started (by kernel_rfl) Tryz.func4
    (ChangeSpec.witness_shaped (enc := enc) (C := Tryz.checked) (os := os) (X := fun w _ => laidMetH Tryz.prog LAIDS w) false (World.laidAll Tryz.prog os LAIDS) #[.slice none 0 0, .int .u8 0, .agg #[.slice none 0 0, .int .i64 0]] 8 (World.laidAll_os _ _ _)
      (World.shaped_of_ZipB (by kernel_rfl) (by kernel_rfl)) (by kernel_rfl) (by kernel_rfl) (by kernel_rfl)
      (by rw [MakeChecks.laidMetH_plain _ _ _ (by kernel_rfl)]; exact laidMet_laidAll _ (by kernel_rfl) (by kernel_rfl))) ?_
  intro W base args ds gs before hval0 hW hcnd hsz0 hX hshape _
  have hsz : (DataW.weightsEach Tryz.prog (Tryz.f4.params.toList ++ []) (ds ++ gs)).all (· ≤ reachBytes) = true := hsz0
  clear hsz0
  have hval : ∀ (j : Nat) t v, Tryz.f4.params[j]? = some t → args[j]? = some v → Value.okWide Tryz.prog W .any base t v := hval0
  have hW' := hW
  obtain ⟨p, q, hA0, hV, rfl, hfz, hnd⟩ := hW
  have hA : DataW.TrodAll enc Tryz.prog W 0 (fun _ => true) true Tryz.f4.params.toList args.toList ds p := hA0
  rw [Tryz.params4] at hA hval hsz
  obtain ⟨v0, vs0, d0, ds0, p0, q0, hargs, rfl, rfl, h0, r0'⟩ := trodAll_cons hA
  obtain ⟨v1, vs1, d1, ds1, p1, q1, rfl, rfl, rfl, h1, r1'⟩ := trodAll_cons r0'
  obtain ⟨v2, vs2, d2, ds2, p2, q2, rfl, rfl, rfl, h2, r2'⟩ := trodAll_cons r1'
  obtain ⟨rfl, rfl, rfl⟩ := trodAll_nil r2'
  obtain rfl : args = #[v0, v1, v2] := by cases args; simp_all
  obtain ⟨rfl, rfl⟩ := trodVars_none hV
  clear hA0 hval0
  have wt0 := fun n hn => (by simpa using List.all_eq_true.1 hsz n (DataW.weights_mem_each (j := 0) rfl rfl n hn) : n ≤ reachBytes)
  have wt1 := fun n hn => (by simpa using List.all_eq_true.1 hsz n (DataW.weights_mem_each (j := 1) rfl rfl n hn) : n ≤ reachBytes)
  have wt2 := fun n hn => (by simpa using List.all_eq_true.1 hsz n (DataW.weights_mem_each (j := 2) rfl rfl n hn) : n ≤ reachBytes)
  have hlt : ∀ x ∈ p0 ++ (p1 ++ (p2 ++ [])), x.block < W.heap.size := fun x hx => by have := hW'.lt x (by simpa using hx); simpa using this
  have hL : laidMet Tryz.prog LAIDS W := by
    have h : laidMetH Tryz.prog LAIDS W := hX
    rw [MakeChecks.laidMetH_plain _ _ _ (by kernel_rfl)] at h
    exact h
  have htab : Lib.TabIs Tryz.prog W "internal/strconv.uint64pow10" .u64 Lib.pow10Tab :=
    Lib.tabIs_of_head (g := 2) (by kernel_rfl) (by kernel_rfl) Tryz.underlying173 Tryz.underlying128 (by kernel_rfl) (by kernel_rfl) (show laidMet Tryz.prog (("internal/strconv.uint64pow10", Lib.tabData .u64 Lib.pow10Tab) :: _) W from hL.tail.tail)
  obtain ⟨l0, r0, z0, n0⟩ := strs_of_trod Tryz.underlying24 Tryz.underlying9 (by kernel_rfl) (hval 0 24 v0 rfl rfl) h0 wt0
  obtain ⟨a1, e1, _, _, w1⟩ := open_int Tryz.underlying5 (hval 1 5 v1 rfl rfl) h1
  subst e1
  obtain ⟨y2, e2, r2⟩ := plan_arg (struct_shape Tryz.underlying44 (hval 2 44 v2 rfl rfl)) ((opens_plan).arg h2)
  subst e2
  refine (walk W htab v0 l0 r0 z0 n0 a1 w1 y2 r2).mono fun e W' ⟨he, hg⟩ => ?_
  subst he
  refine ⟨_, rfl, _, _, _, [] ++ [], p0 ++ (p1 ++ (p2 ++ [])), [], hW', ?_, ?_, ?_, hg.frame _, fun h => by cases h⟩
  · exact trodAll_mk1 (shut_bool Tryz.underlying4 true)
  · exact trodAll_cons_mk (Below.trod laidOut (by kernel_rfl) (of_decide_eq_true (by kernel_rfl)) h0 hg (fun x hx => hlt x (by simp [hx]))) (trodAll_cons_mk (Below.trod laidOut (by kernel_rfl) (of_decide_eq_true (by kernel_rfl)) h1 hg (fun x hx => hlt x (by simp [hx]))) (trodAll_cons_mk (Below.trod laidOut (by kernel_rfl) (of_decide_eq_true (by kernel_rfl)) h2 hg (fun x hx => hlt x (by simp [hx]))) (trodAll_mk0)))
  · exact rfl

theorem over : Rows.segAgainRow.holds Tryz.pinned (OpenSpec.ofChange Rows.segAgainSpec) :=
  OpenClaim.holds_of_wide 4 Tryz.f4 rfl rfl rfl rfl rfl rfl rfl ⟨rfl, rfl, rfl, rfl, rfl⟩ rfl rfl rfl rfl rfl (by kernel_rfl) Tryz.func4 (by kernel_rfl)
    (of_decide_eq_true (by kernel_rfl)) (by unfold Func.isWrapper; first | (rw [if_pos (by decide +kernel)]; kernel_rfl) | (rw [if_neg (by decide +kernel)]; exact ⟨rfl, rfl⟩))
    (fun os started H enc _ => lifted os started H enc)

theorem proved : Rows.SegAgainCardSaid :=
  Claim7.holds_tied_plain_at .later [] [.data, .data, .data, .data, .sentinel, .sentinel, .pinned] true _ true over (fun _ h => by cases h) (by kernel_rfl) (fun _ h => by cases h) segAgain_row_tie rfl ⟨rfl, rfl⟩ (by kernel_rfl) rfl
    (fun f fn hf hfn => by
      obtain rfl : f = 4 := Option.some.inj ((show Tryz.prog.funcNamed "reveille/reveillelaw05.SegAgain" = some 4 by kernel_rfl).symm.trans hf) |>.symm
      obtain rfl : fn = Tryz.f4 := (Option.some.inj (Tryz.func4.symm.trans hfn)).symm
      exact ⟨by kernel_rfl, fun j t ht => by
        rw [Tryz.params4] at ht
        have hm : t ∈ [24, 5, 44] := by simpa using Array.mem_of_getElem? ht
        have hall : ([24, 5, 44].all fun u => !Tryz.prog.wantsStandIn u) = true := by kernel_rfl
        exact (show Tryz.prog.wantsStandIn t = false by simpa using List.all_eq_true.1 hall t hm)⟩)
    (by kernel_rfl)
#print axioms proved
end Go.Proofs.YtafdfmdcnniccaaGreatDoor.sagain
