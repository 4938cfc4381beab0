/- CqFiles: the walk. -/
import Derived.Test.YtdepejneliacpaaGreatDoorRows
import Derived.WalkKit
import Derived.ProofKit
import Derived.OpenShut
import Derived.Handy
import Derived.Deep.LoopGhost
import Derived.Lib.Hide
import Derived.Lib.Strings
import Derived.SizedLaws
import Derived.Maps.Own
import Derived.Maps.OwnOps
import Derived.Maps.OwnSet
import Derived.Maps.RangeWalk
import Derived.Deep.QuietTactic
import Derived.BigQuiet
import Derived.Deep.RegionHeld3
import Derived.Lib.ConvBytes
import Derived.Lib.AppendZeros
import Derived.Lib.AppendZerosOnto
import Derived.Lib.LazyBuf
import Derived.Shelf.Abstract
import Derived.LaidEql
import Derived.Lib.SliceRun
import Derived.StillTailTactics
import Derived.Deep.Slices
import Derived.Lib.Atoi
import Derived.Lib.ItoaNum
import Derived.Lib.SlTrimSet
import Derived.Shelf.SlIter.Nil
import Derived.Ground.GgzProg
import Derived.Shelf.SortM.Plain
import Derived.Shelf.SortM.SortNone
import Derived.Ground.SlgmProg
import Derived.Shelf.SlicesE.DeleteFunc
import Derived.Ground.SlgfProg
import Derived.Test.YtdepejneliacpaaGreatDoorProg
import Derived.Shelf.Strings.Builder1
import Derived.Shelf.Strings.Builder2
import Derived.Shelf.Strings.Trim
import Derived.Shelf.Small.Utf8
import Derived.Shelf.Small.Bits
import Derived.Shelf.Small.Strs
import Derived.Shelf.Small.Wraps
import Derived.Shelf.Strings.BuilderF
import Derived.Shelf.Strings.BuilderK
import Derived.Shelf.Strings.Builder2Cap
import Derived.Shelf.Strconv.Atoi
import Derived.Shelf.Strconv.Itoa0
import Derived.Shelf.Strconv.Itoa1
import Derived.Shelf.LaysM
import Derived.Shelf.Strconv.Itoa2
import Derived.Shelf.Strconv.Itoa3
import Derived.Shelf.Strings.Search1
import Derived.Shelf.Sort.Plain
import Derived.Shelf.GgClosure.StringsIndexFunc
import Derived.Ground.GgwProg
import Derived.Shelf.GgClosure.StringsIndexFuncTop
import Derived.Shelf.GgClosure.StringsRunes
import Derived.Shelf.Strings.Prefix
import Derived.Shelf.Strings.Runes
import Derived.Shelf.Strings.AsciiSet
import Derived.Shelf.Bits.Mul64
import Derived.Shelf.Strings.Repeat
import Derived.Shelf.Unicode.DecodeSlow
import Derived.Shelf.Unicode.DecodeAny
import Derived.Shelf.Unicode.DecodeLast
import Derived.Shelf.Strings.BuilderCap
import Derived.Shelf.Slices.Equal
import Derived.Ground.Names2Prog
import Derived.Shelf.Slices.Clone
import Derived.Shelf.Slices.CompactS
import Derived.Shelf.Slices.SearchI
import Derived.Shelf.Slices.Cells
import Derived.Shelf.Slices.In.SortNone
import Derived.Shelf.Slices.Empties2
import Derived.Ground.SlgnProg
import Derived.Shelf.SlicesE.Equal
import Derived.Shelf.SlicesE.Compact
import Derived.Shelf.SlicesE.Clone
import Derived.Shelf.SlicesE.IndexFunc
import Derived.Shelf.Strings.SlTrimAscii
import Derived.Lib.Repeat
import Derived.Lib.LaidTab
import Derived.Deep.RegionLaw
import Derived.Deep.RegionWith
import Derived.Lib.AtoiErrMem
import Derived.Laws.MakeOwn
import Derived.Lib.Builder
import Derived.Lib.AppendStr
import Derived.Lib.DecodeN
import Derived.Maps.Keyed
import Derived.DeepKeys4
import Derived.Laws.Cover1
import Derived.Shelf.SlSortCmp.WholeK
import Derived.Shelf.SlSortCmp.NoneTotal
import Derived.Ground.SlsfProg
import Derived.Test.YtdepejneliacpaaGreatDoorTie
import Derived.Test.YtdepejneliacpaaGreatDoorCards
import Derived.LaidMore
import Derived.Lay
import Derived.SevenTiedAt
import Derived.HandedShaped
import Derived.Stop.Joined
import Derived.Shelf.Vars
import Derived.Stop.LaidErr
import Derived.Outline
import Derived.Test.YtdepejneliacpaaGreatDoorPk30
namespace Go.Proofs.YtdepejneliacpaaGreatDoor.cfiles
open Go.ChangeShapes Go.WideShapes Go.ChangeAt Go.RowKit Go.ChangeMaps
open Go.Proofs.YtdepejneliacpaaGreatDoor.dk Go.Proofs.YtdepejneliacpaaGreatDoor.sg Go.Proofs.YtdepejneliacpaaGreatDoor.cq

set_option maxRecDepth 100000 in
set_option maxHeartbeats 16000000 in
theorem walk (W : World) (ht : Tab W) (x0 : Int) (z0 : (Lit.int .u8 x0).wf = true) (x1 : Int) (z1 : (Lit.int .u8 x1).wf = true) :
    Calls Tryz.prog 6 #[.int .u8 x0, .int .u8 x1] W fun e W' => e = .returned (.bool true) ∧ Calm W W' := by
  obtain ⟨x0, rfl, h0⟩ : ∃ t : Nat, x0 = t ∧ t < 256 := by
    unfold Lit.wf at z0; simp [IntKind.min, IntKind.max, IntKind.bits, IntKind.signed] at z0; exact ⟨x0.toNat, by omega, by omega⟩
  obtain ⟨x1, rfl, h1⟩ : ∃ t : Nat, x1 = t ∧ t < 256 := by
    unfold Lit.wf at z1; simp [IntKind.min, IntKind.max, IntKind.bits, IntKind.signed] at z1; exact ⟨x1.toNat, by omega, by omega⟩
  have HT := box ht
  have haw := box (awake_any W ht)
  clear ht z0 z1
  obtain ⟨n, hn⟩ : ∃ n, x0 % 100 = n := ⟨_, rfl⟩
  have hn100 : n < 100 := by omega
  have r0 : (x0 : Int).tmod 100 = (n : Int) := by rw [← hn]; rfl
  have r2 : (x0 : Int) % 100 = (n : Int) := by rw [← hn]; rfl
  obtain ⟨t, ht⟩ : ∃ t, min x1 n = t := ⟨_, rfl⟩
  have htI : min (x1 : Int) (n : Int) = (t : Int) := by omega
  have htn : t ≤ n := by omega
  clear hn ht
  go_enter Tryz.func6, Tryz.ntmps6
  go_wp2_with fail
  refine haw.out.mono ?_
  rintro e w1 ⟨rfl, hc1⟩
  have O1 := box hc1
  clear hc1 haw
  go_wp2_with fail
  refine (New_ok _ 1048576).mono ?_
  rintro e w2 ⟨p, F2, rfl, hd2, hc2, hF2⟩
  have hcr := box (create_any (s := otherN) w2 hd2 (Able.new 1048576 (by decide)) (new_bytes _ _) (by decide))
  have O2 := box (O1.out.trans hc2)
  have HF2 := box (fun b hb => Nat.le_trans O1.out.size (hF2 b hb))
  clear hd2 hc2 hF2
  go_wp2_with fail
  refine hcr.out.mono ?_
  rintro e w3 ⟨rfl, D3, F3, hd3, ha3, hB3, hs3⟩
  have O3 := box (Below.trans O2.out (hs3.keeps.below O2.out.size HF2.out))
  have HF3 := box (fun b (hb : F3 b) => (show W.heap.size ≤ b from by
    rcases hs3.foot b hb with h1 | h1
    · exact HF2.out b h1
    · exact Nat.le_trans O2.out.size h1))
  have HB3 := box hB3
  have hcr2 := box (create_any (s := leftN) w3 hd3 ha3 (by rw [hB3.others _ (by decide)]; exact new_bytes _ _) (by decide))
  clear hcr hd3 ha3 hB3 hs3 O1 HF2 O2
  go_wp2_with fail
  refine hcr2.out.mono ?_
  rintro e w4 ⟨rfl, D4, F4, hd4, ha4, hB4, hs4⟩
  have O4 := box (Below.trans O3.out (hs4.keeps.below O3.out.size HF3.out))
  have HF4 := box (fun b (hb : F4 b) => (show W.heap.size ≤ b from by
    rcases hs4.foot b hb with h1 | h1
    · exact HF3.out b h1
    · exact Nat.le_trans O3.out.size h1))
  have hnew := box (begins hd4 ha4 (sole_two HB3.out hB4) HT.out O4.out HF4.out)
  clear hd4 ha4 hB4 hs4 O3 HF3 O4 HF4 HB3 hcr2
  go_wp2_with fail
  refine hnew.out.mono ?_
  rintro e w5 ⟨g, rfl, hS5⟩
  have HS5 := box hS5
  clear hS5 hnew
  go_wp2_with fail
  go_loopw [9] (fun iv wr => ∃ i : Nat, iv = .int .i64 (i : Int) ∧ i ≤ n ∧ Box (Fi W g p i 0 wr)) (fun iv _ => n - (intOf iv).toNat)
  case atStart => exact ⟨0, rfl, Nat.zero_le _, HS5⟩
  case round =>
    clear HS5
    obtain ⟨i, rfl, hi, HS⟩ := hrel
    obtain ⟨wo, hwo⟩ : ∃ wo : World, wo = wr := ⟨_, rfl⟩
    subst hwo
    by_cases hlt : i < n
    · have t3 : decide (i < n) = true := decide_eq_true hlt
      have t3b : decide ((i : Int) < (n : Int)) = true := decide_eq_true (by omega)
      have hA := box (HS.out.add (by omega))
      go_wp2_with fail
      refine hA.out.mono ?_
      rintro e w7 ⟨rfl, hS7⟩
      have HS7 := box hS7
      clear hS7 hA HS
      go_wp2_with fail
      go_roundw
      case rel => exact ⟨i + 1, by go_num, by omega, HS7⟩
      case measure => simp [intOf]; omega
    · have t3 : decide (i < n) = false := decide_eq_false hlt
      have t3b : decide ((i : Int) < (n : Int)) = false := decide_eq_false (by omega)
      have hin : i = n := by omega
      subst hin
      have htr := box (HS.out.trim (by omega) htn)
      clear hlt HS
      go_wp2_with fail
      refine htr.out.mono ?_
      rintro e w7 ⟨rfl, hS7⟩
      have HS7 := box hS7
      have hle := box (hS7.least htn)
      clear hS7 htr
      go_wp2_with fail
      refine hle.out.mono ?_
      rintro e w8 ⟨rfl, hc8⟩
      have HS8 := box (HS7.out.calm hc8)
      clear hc8 hle HS7
      go_wp2_with fail
      go_loopw [13] (fun jv wr => ∃ j : Nat, jv = .int .i64 (j : Int) ∧ t ≤ j ∧ j ≤ i ∧ Box (Fi W g p i t wr)) (fun jv _ => i - (intOf jv).toNat)
      case atStart => exact ⟨t, rfl, Nat.le_refl _, htn, HS8⟩
      case round =>
        clear HS8
        obtain ⟨j, rfl, hj1, hj, HS⟩ := hrel
        obtain ⟨wi, hwi⟩ : ∃ wi : World, wi = wr := ⟨_, rfl⟩
        subst hwi
        by_cases hjm : j < i
        · have t4 : decide (j < i) = true := decide_eq_true hjm
          have t4b : decide ((j : Int) < (i : Int)) = true := decide_eq_true (by omega)
          have hat := box (HS.out.entry hj1 hjm)
          go_wp2_with fail
          refine hat.out.mono ?_
          rintro e w9 ⟨rfl, hc9⟩
          have hnw := heap_new w9 (.cells #[.int .i64 (j : Int), .int .i64 0, .int .i64 0, .int .i64 0] 33)
          have c0 := cell_of hnw 0
          have hlw := heap_lt hnw
          have HS9 := box ((HS.out.calm hc9).calm ((Calm.refl w9).alloc (.cells #[.int .i64 (j : Int), .int .i64 0, .int .i64 0, .int .i64 0] 33)))
          clear hc9 hat hnw
          go_wp2_with fail
          go_roundw
          case rel => exact ⟨j + 1, by go_num, by omega, by omega, HS9⟩
          case measure => simp [intOf]; omega
        · have t4 : decide (j < i) = false := decide_eq_false hjm
          have t4b : decide ((j : Int) < (i : Int)) = false := decide_eq_false (by omega)
          have hfi := box (HS.out.files (by omega))
          obtain ⟨wh, hwh⟩ : ∃ wh, (i + 9) / 10 = wh := ⟨_, rfl⟩
          have q1 : ((i : Int) + 9).tdiv 10 = (wh : Int) := by rw [← hwh]; rfl
          have q2 : ((i : Int) + 9) / 10 = (wh : Int) := by rw [← hwh]; rfl
          obtain ⟨tq, htq⟩ : ∃ tq, t / 10 = tq := ⟨_, rfl⟩
          have q3 : (t : Int).tdiv 10 = (tq : Int) := by rw [← htq]; rfl
          have q4 : (t : Int) / 10 = (tq : Int) := by rw [← htq]; rfl
          obtain ⟨fN0, hfN⟩ : ∃ fN0, fN i t = fN0 := ⟨_, rfl⟩
          rw [hfN] at hfi
          have hag := box (fun w0 (h : Fi W g p i t w0) => h.again (by omega))
          clear hjm
          go_wp2_with fail
          refine hfi.out.mono ?_
          rintro e w9 ⟨la, lcap, rfl, hc9⟩
          have HS9 := box (HS.out.calm hc9)
          clear hc9 hfi HS
          have hnil := box (fun w0 => cq.NewNil_any w0)
          have hadn := box (fun w0 => AddNil_any aN 0 w0)
          have hatn := box (fun w0 => AtNil_any aN 0 0 w0)
          have hban := box (fun w0 => BaseNil_any aN 0 0 w0)
          have htrn := box (fun w0 => TrimNil_any 0 w0)
          have hlen := box (fun w0 => LeastNil_any aN 0 w0)
          have hnen := box (fun w0 => NextNil_any aN 0 w0)
          have hsen := box (fun w0 => SeekNil_any aN 0 0 w0)
          have haln := box (fun w0 => cq.AllNil_any w0)
          have HS10 := HS9
          by_cases hi0 : i = 0
          · have p1 : decide (0 < i) = false := decide_eq_false (by omega)
            have p1b : decide ((0 : Int) < (i : Int)) = false := decide_eq_false (by omega)
            have p2 : ((i : Int) == 0) = true := beq_iff_eq.2 (by omega)
            have hf0 : fN0 = 0 := by rw [← hfN]; unfold fN; rw [if_pos hi0]
            subst hf0
            go_wp2_with fail
            refine (hag.out _ HS10.out).mono ?_
            rintro e w11 ⟨g2, rfl, hE⟩
            have HE11 := box hE
            clear hE hag HS10
            go_wp2_with fail
            refine (hnil.out _).mono ?_
            rintro e w12 ⟨rfl, rfl⟩
            go_wp2_with fail
            refine (hadn.out _).mono ?_
            rintro e w13 ⟨rfl, hc13⟩
            have HE13 := box (HE11.out.calm hc13)
            clear hc13 HE11
            go_wp2_with fail
            refine (hatn.out _).mono ?_
            rintro e w14 ⟨rfl, hc14⟩
            have HE15 := box ((HE13.out.calm hc14).calm ((Calm.refl w14).alloc (.cells #[.int .i64 0, .int .i64 0, .int .i64 0, .int .i64 0] 33)))
            have hnm := box HE15.out.names
            clear hc14 HE13
            go_wp2_with fail
            refine hnm.out.mono ?_
            rintro e w16 ⟨ea, ecap, rfl, hc16⟩
            have HE16 := box (HE15.out.calm hc16)
            have hall := box HE16.out.all
            clear hc16 hnm HE15
            go_wp2_with fail
            refine hall.out.mono ?_
            rintro e w17 ⟨fa, fcap, rfl, hc17⟩
            have HE17 := box (HE16.out.calm hc17)
            clear hc17 hall HE16
            go_wp2_with fail
            refine (hban.out _).mono ?_
            rintro e w18 ⟨rfl, hc18⟩
            have HE18 := box (HE17.out.calm hc18)
            clear hc18 HE17
            go_wp2_with fail
            refine (htrn.out _).mono ?_
            rintro e w19 ⟨rfl, hc19⟩
            have HE19 := box (HE18.out.calm hc19)
            clear hc19 HE18
            go_wp2_with fail
            refine (hlen.out _).mono ?_
            rintro e w20 ⟨rfl, hc20⟩
            have HE20 := box (HE19.out.calm hc20)
            clear hc20 HE19
            go_wp2_with fail
            refine (hnen.out _).mono ?_
            rintro e w21 ⟨rfl, hc21⟩
            have HE21 := box (HE20.out.calm hc21)
            clear hc21 HE20
            go_wp2_with fail
            refine (hsen.out _).mono ?_
            rintro e w22 ⟨rfl, hc22⟩
            have HE22 := box (HE21.out.calm hc22)
            clear hc22 HE21
            go_wp2_with fail
            refine (haln.out _).mono ?_
            rintro e w23 ⟨rfl, hc23⟩
            have HE23 := box (HE22.out.calm hc23)
            clear hc23 HE22
            go_wp2_with fail
            go_ret
            exact ⟨rfl, HE23.out.owns⟩
          · have p1 : decide (0 < i) = true := decide_eq_true (by omega)
            have p1b : decide ((0 : Int) < (i : Int)) = true := decide_eq_true (by omega)
            have p2 : ((i : Int) == 0) = false := beq_eq_false_iff_ne.2 (by omega)
            have p3 : min (tq : Int) ((wh : Int) - 1) = ((min tq (wh - 1) : Nat) : Int) := by omega
            have hf0 : fN0 = wh - min tq (wh - 1) := by rw [← hfN]; unfold fN; rw [if_neg hi0, hwh, htq]
            have p4 : IntKind.i64.wrap ((wh : Int) - 1) = (wh : Int) - 1 := IntWalk.i64_in _ (by omega)
            have p5 : (wh : Int) - ((min tq (wh - 1) : Nat) : Int) = (fN0 : Int) := by omega
            have p6 : IntKind.i64.wrap ((wh : Int) - ((min tq (wh - 1) : Nat) : Int)) = (fN0 : Int) := by rw [IntWalk.i64_in _ (by omega)]; exact p5
            clear hf0
            go_wp2_with fail
            refine (hag.out _ HS10.out).mono ?_
            rintro e w11 ⟨g2, rfl, hE⟩
            have HE11 := box hE
            clear hE hag HS10
            go_wp2_with fail
            refine (hnil.out _).mono ?_
            rintro e w12 ⟨rfl, rfl⟩
            go_wp2_with fail
            refine (hadn.out _).mono ?_
            rintro e w13 ⟨rfl, hc13⟩
            have HE13 := box (HE11.out.calm hc13)
            clear hc13 HE11
            go_wp2_with fail
            refine (hatn.out _).mono ?_
            rintro e w14 ⟨rfl, hc14⟩
            have HE15 := box ((HE13.out.calm hc14).calm ((Calm.refl w14).alloc (.cells #[.int .i64 0, .int .i64 0, .int .i64 0, .int .i64 0] 33)))
            have hnm := box HE15.out.names
            clear hc14 HE13
            go_wp2_with fail
            refine hnm.out.mono ?_
            rintro e w16 ⟨ea, ecap, rfl, hc16⟩
            have HE16 := box (HE15.out.calm hc16)
            have hall := box HE16.out.all
            clear hc16 hnm HE15
            go_wp2_with fail
            refine hall.out.mono ?_
            rintro e w17 ⟨fa, fcap, rfl, hc17⟩
            have HE17 := box (HE16.out.calm hc17)
            clear hc17 hall HE16
            go_wp2_with fail
            refine (hban.out _).mono ?_
            rintro e w18 ⟨rfl, hc18⟩
            have HE18 := box (HE17.out.calm hc18)
            clear hc18 HE17
            go_wp2_with fail
            refine (htrn.out _).mono ?_
            rintro e w19 ⟨rfl, hc19⟩
            have HE19 := box (HE18.out.calm hc19)
            clear hc19 HE18
            go_wp2_with fail
            refine (hlen.out _).mono ?_
            rintro e w20 ⟨rfl, hc20⟩
            have HE20 := box (HE19.out.calm hc20)
            clear hc20 HE19
            go_wp2_with fail
            refine (hnen.out _).mono ?_
            rintro e w21 ⟨rfl, hc21⟩
            have HE21 := box (HE20.out.calm hc21)
            clear hc21 HE20
            go_wp2_with fail
            refine (hsen.out _).mono ?_
            rintro e w22 ⟨rfl, hc22⟩
            have HE22 := box (HE21.out.calm hc22)
            clear hc22 HE21
            go_wp2_with fail
            refine (haln.out _).mono ?_
            rintro e w23 ⟨rfl, hc23⟩
            have HE23 := box (HE22.out.calm hc23)
            clear hc23 HE22
            go_wp2_with fail
            go_ret
            exact ⟨rfl, HE23.out.owns⟩
end Go.Proofs.YtdepejneliacpaaGreatDoor.cfiles
