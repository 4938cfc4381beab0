/- SegNames: places have names, which tell them; others have none; a row that isn't there has nothing. The card is tied. No condition. -/
import Derived.Test.YtafdfmdcnniccaaGreatDoorRows
import Derived.WalkKit
import Derived.ProofKit
import Derived.OpenShut
import Derived.Handy
import Derived.Deep.LoopGhost
import Derived.Lib.Hide
import Derived.Lib.Strings
import Derived.SizedLaws
import Derived.Maps.Own
import Derived.Maps.OwnOps
import Derived.Maps.OwnSet
import Derived.Maps.RangeWalk
import Derived.Deep.QuietTactic
import Derived.BigQuiet
import Derived.Deep.RegionHeld3
import Derived.Lib.ConvBytes
import Derived.Lib.AppendZeros
import Derived.Lib.AppendZerosOnto
import Derived.Lib.LazyBuf
import Derived.Shelf.Abstract
import Derived.LaidEql
import Derived.Lib.SliceRun
import Derived.StillTailTactics
import Derived.Deep.Slices
import Derived.Lib.Atoi
import Derived.Lib.ItoaNum
import Derived.Lib.SlTrimSet
import Derived.Shelf.SlIter.Nil
import Derived.Ground.GgzProg
import Derived.Shelf.SortM.Plain
import Derived.Shelf.SortM.SortNone
import Derived.Ground.SlgmProg
import Derived.Shelf.SlicesE.DeleteFunc
import Derived.Ground.SlgfProg
import Derived.Test.YtafdfmdcnniccaaGreatDoorProg
import Derived.Shelf.Strings.Builder1
import Derived.Shelf.Strings.Builder2
import Derived.Shelf.Strings.Trim
import Derived.Shelf.Small.Utf8
import Derived.Shelf.Small.Bits
import Derived.Shelf.Small.Strs
import Derived.Shelf.Small.Wraps
import Derived.Shelf.Strings.BuilderF
import Derived.Shelf.Strings.BuilderK
import Derived.Shelf.Strings.Builder2Cap
import Derived.Shelf.Strconv.Atoi
import Derived.Shelf.Strconv.Itoa0
import Derived.Shelf.Strconv.Itoa1
import Derived.Shelf.LaysM
import Derived.Shelf.Strconv.Itoa2
import Derived.Shelf.Strconv.Itoa3
import Derived.Shelf.Strings.Search1
import Derived.Shelf.Sort.Plain
import Derived.Shelf.Strings.Prefix
import Derived.Shelf.Strings.Runes
import Derived.Shelf.Strings.AsciiSet
import Derived.Shelf.Bits.Mul64
import Derived.Shelf.Strings.Repeat
import Derived.Shelf.Unicode.DecodeSlow
import Derived.Shelf.Unicode.DecodeAny
import Derived.Shelf.Unicode.DecodeLast
import Derived.Shelf.Strings.BuilderCap
import Derived.Ground.Names2Prog
import Derived.Shelf.Slices.Clone
import Derived.Shelf.Slices.In.SortNone
import Derived.Ground.SlgnProg
import Derived.Shelf.SlicesE.Clone
import Derived.Shelf.SlicesE.IndexFunc
import Derived.Shelf.Strings.SlTrimAscii
import Derived.Lib.Repeat
import Derived.Lib.LaidTab
import Derived.Deep.RegionLaw
import Derived.Deep.RegionWith
import Derived.Lib.AtoiErrMem
import Derived.Test.YtafdfmdcnniccaaGreatDoorTie
import Derived.Test.YtafdfmdcnniccaaGreatDoorCards
import Derived.LaidMore
import Derived.Lay
import Derived.SevenTiedAt
import Derived.HandedShaped
import Derived.Stop.Joined
import Derived.Shelf.Vars
import Derived.Stop.LaidErr
import Derived.Test.YtafdfmdcnniccaaGreatDoorPk22
namespace Go.Proofs.YtafdfmdcnniccaaGreatDoor.snames
open Go.ChangeShapes Go.WideShapes Go.ChangeAt Go.RowKit
open Go.Proofs.YtafdfmdcnniccaaGreatDoor.dk Go.Proofs.YtafdfmdcnniccaaGreatDoor.sg

theorem place_cases (head s : ByteArray) : (placeOf head s = none ∧ placeI head s = (0, false)) ∨ (∃ j : Nat, j < 100000000 ∧ placeI head s = ((j : Int), true) ∧ s = nameB head j) := by
  unfold placeI
  cases h : placeOf head s with
  | none => exact .inl ⟨rfl, rfl⟩
  | some j => exact .inr ⟨j, (name_place h).1, rfl, (name_place h).2⟩
set_option maxRecDepth 100000 in
set_option maxHeartbeats 8000000 in
theorem walk (W : World) (ht : Tab W) (head : ByteArray) (hh : head.size ≤ maxLen) (k : Int) (hk : (Lit.int .i64 k).wf = true) (s : ByteArray) (hs : s.size ≤ maxLen) :
    Calls Tryz.prog 7 #[.string head, .int .i64 k, .string s] W fun e W' => e = .returned (.bool true) ∧ Calm W W' := by
  have haw := box (awake_any W ht)
  have HT := box ht
  unfold maxLen at hh hs
  clear ht hk
  go_enter Tryz.func7, Tryz.ntmps7
  go_wp2_with fail
  refine haw.out.mono ?_
  rintro e w1 ⟨rfl, hc1⟩
  have C1 := box hc1
  clear hc1 haw
  by_cases h1 : 100 < head.size
  · have t1 : decide ((100 : Int) < (head.size : Int)) = true := decide_eq_true (by omega)
    go_wp2_with fail
    go_ret
    exact ⟨rfl, C1.out⟩
  by_cases h2 : 100 < s.size
  · have t1 : decide ((100 : Int) < (head.size : Int)) = false := decide_eq_false (by omega)
    have t2 : decide ((100 : Int) < (s.size : Int)) = true := decide_eq_true (by omega)
    go_wp2_with fail
    go_ret
    exact ⟨rfl, C1.out⟩
  have t1 : decide ((100 : Int) < (head.size : Int)) = false := decide_eq_false (by omega)
  have t2 : decide ((100 : Int) < (s.size : Int)) = false := decide_eq_false (by omega)
  have hps := place_cases head s
  by_cases h3 : 0 ≤ k ∧ k ≤ 99999999
  · obtain ⟨q, rfl⟩ : ∃ q : Nat, k = q := ⟨k.toNat, by omega⟩
    have hnm := box (fun (W' : World) (hc : Calm W W') => Name_in head q W' (by omega) (by omega) (tab_calm HT.out hc))
    have hpl := box (fun (W' : World) => Place_any head (nameB head q) W' (by rw [name_size]; omega))
    have hpe : placeI head (nameB head q) = ((q : Int), true) := by unfold placeI; rw [place_name head (by omega)]
    have hsz : (nameB head q).size = head.size + 8 := name_size head q
    rw [hpe] at hpl
    obtain ⟨z, hz⟩ : ∃ z, nameB head q = z := ⟨_, rfl⟩
    rw [hz] at hnm hpl hsz
    have t4 : decide ((q : Int) ≤ 99999999) = true := decide_eq_true (by omega)
    have t5 : decide (0 ≤ (q : Int)) = true := decide_eq_true (by omega)
    have hq : (q : Int) ≤ 99999999 := by omega
    clear hpe hz h3
    go_wp2_with fail
    refine (hnm.out _ C1.out).mono ?_
    rintro e w2 ⟨rfl, hc2⟩
    have C2 := box (C1.out.trans hc2)
    clear hc2 hnm
    go_wp2_with fail
    refine (hpl.out _).mono ?_
    rintro e w3 ⟨rfl, hc3⟩
    have C3 := box (C2.out.trans hc3)
    clear hc3 hpl
    rcases hps with ⟨hp1, hp2⟩ | ⟨j, hp1, hp2, hp3⟩
    · have hpl := box (fun (W' : World) => Place_any head s W' (by omega))
      rw [hp2] at hpl
      clear hp1 hp2
      go_wp2_with fail
      refine (hpl.out _).mono ?_
      rintro e w4 ⟨rfl, hc4⟩
      have CX := box (C3.out.trans hc4)
      clear hc4 hpl
      go_wp2_with fail
      refine (AppendNil_any _ _).mono ?_
      rintro e wn ⟨rfl, rfl⟩
      go_wp2_with fail
      refine (ReadNil_any _ _ _).mono ?_
      rintro e wn ⟨rfl, rfl⟩
      go_wp2_with fail
      refine (DropNil_any _).mono ?_
      rintro e wn ⟨rfl, rfl⟩
      go_wp2_with fail
      refine (OpenNil_any _ _ _).mono ?_
      rintro e wn ⟨rfl, rfl⟩
      go_wp2_with fail
      refine (SyncNil_any _).mono ?_
      rintro e wn ⟨rfl, rfl⟩
      go_wp2_with fail
      refine (CutNil_any _ _).mono ?_
      rintro e wn ⟨rfl, hcn⟩
      have CN := box (CX.out.trans hcn)
      clear hcn
      go_wp2_with fail
      refine (BeginNil_any _).mono ?_
      rintro e wm ⟨rfl, rfl⟩
      go_wp2_with fail
      refine (EndNil_any _).mono ?_
      rintro e wm ⟨rfl, rfl⟩
      go_wp2_with fail
      refine (SyncedNil_any _).mono ?_
      rintro e wm ⟨rfl, rfl⟩
      go_wp2_with fail
      refine (RoomNil_any _).mono ?_
      rintro e wm ⟨rfl, rfl⟩
      go_wp2_with fail
      refine (LeftNil_any _ _).mono ?_
      rintro e wm ⟨rfl, rfl⟩
      go_wp2_with fail
      go_ret
      exact ⟨rfl, CN.out⟩
    · have hpl := box (fun (W' : World) => Place_any head s W' (by omega))
      rw [hp2] at hpl
      have hnm := box (fun (W' : World) (hc : Calm W W') => Name_in head j W' (by omega) hp1 (tab_calm HT.out hc))
      rw [← hp3] at hnm
      have hss : (s.toList == s.toList) = true := beq_self_eq_true _
      have hss2 : (s.toList != s.toList) = false := by simp
      clear hp1 hp2 hp3
      go_wp2_with fail
      refine (hpl.out _).mono ?_
      rintro e w4 ⟨rfl, hc4⟩
      have C4 := box (C3.out.trans hc4)
      clear hc4 hpl
      go_wp2_with fail
      refine (hnm.out _ C4.out).mono ?_
      rintro e w5 ⟨rfl, hc5⟩
      have CX := box (C4.out.trans hc5)
      clear hc5 hnm
      go_wp2_with fail
      refine (AppendNil_any _ _).mono ?_
      rintro e wn ⟨rfl, rfl⟩
      go_wp2_with fail
      refine (ReadNil_any _ _ _).mono ?_
      rintro e wn ⟨rfl, rfl⟩
      go_wp2_with fail
      refine (DropNil_any _).mono ?_
      rintro e wn ⟨rfl, rfl⟩
      go_wp2_with fail
      refine (OpenNil_any _ _ _).mono ?_
      rintro e wn ⟨rfl, rfl⟩
      go_wp2_with fail
      refine (SyncNil_any _).mono ?_
      rintro e wn ⟨rfl, rfl⟩
      go_wp2_with fail
      refine (CutNil_any _ _).mono ?_
      rintro e wn ⟨rfl, hcn⟩
      have CN := box (CX.out.trans hcn)
      clear hcn
      go_wp2_with fail
      refine (BeginNil_any _).mono ?_
      rintro e wm ⟨rfl, rfl⟩
      go_wp2_with fail
      refine (EndNil_any _).mono ?_
      rintro e wm ⟨rfl, rfl⟩
      go_wp2_with fail
      refine (SyncedNil_any _).mono ?_
      rintro e wm ⟨rfl, rfl⟩
      go_wp2_with fail
      refine (RoomNil_any _).mono ?_
      rintro e wm ⟨rfl, rfl⟩
      go_wp2_with fail
      refine (LeftNil_any _ _).mono ?_
      rintro e wm ⟨rfl, rfl⟩
      go_wp2_with fail
      go_ret
      exact ⟨rfl, CN.out⟩
  · have hnm := box (fun (W' : World) => Name_out head k W' (by omega))
    by_cases h4 : k < 0
    · have t4 : decide (0 ≤ k) = false := decide_eq_false (by omega)
      clear h3 h4
      go_wp2_with fail
      refine (hnm.out _).mono ?_
      rintro e w2 ⟨rfl, hc2⟩
      have C3 := box (C1.out.trans hc2)
      clear hc2 hnm
      rcases hps with ⟨hp1, hp2⟩ | ⟨j, hp1, hp2, hp3⟩
      · have hpl := box (fun (W' : World) => Place_any head s W' (by omega))
        rw [hp2] at hpl
        clear hp1 hp2
        go_wp2_with fail
        refine (hpl.out _).mono ?_
        rintro e w4 ⟨rfl, hc4⟩
        have CX := box (C3.out.trans hc4)
        clear hc4 hpl
        go_wp2_with fail
        refine (AppendNil_any _ _).mono ?_
        rintro e wn ⟨rfl, rfl⟩
        go_wp2_with fail
        refine (ReadNil_any _ _ _).mono ?_
        rintro e wn ⟨rfl, rfl⟩
        go_wp2_with fail
        refine (DropNil_any _).mono ?_
        rintro e wn ⟨rfl, rfl⟩
        go_wp2_with fail
        refine (OpenNil_any _ _ _).mono ?_
        rintro e wn ⟨rfl, rfl⟩
        go_wp2_with fail
        refine (SyncNil_any _).mono ?_
        rintro e wn ⟨rfl, rfl⟩
        go_wp2_with fail
        refine (CutNil_any _ _).mono ?_
        rintro e wn ⟨rfl, hcn⟩
        have CN := box (CX.out.trans hcn)
        clear hcn
        go_wp2_with fail
        refine (BeginNil_any _).mono ?_
        rintro e wm ⟨rfl, rfl⟩
        go_wp2_with fail
        refine (EndNil_any _).mono ?_
        rintro e wm ⟨rfl, rfl⟩
        go_wp2_with fail
        refine (SyncedNil_any _).mono ?_
        rintro e wm ⟨rfl, rfl⟩
        go_wp2_with fail
        refine (RoomNil_any _).mono ?_
        rintro e wm ⟨rfl, rfl⟩
        go_wp2_with fail
        refine (LeftNil_any _ _).mono ?_
        rintro e wm ⟨rfl, rfl⟩
        go_wp2_with fail
        go_ret
        exact ⟨rfl, CN.out⟩
      · have hpl := box (fun (W' : World) => Place_any head s W' (by omega))
        rw [hp2] at hpl
        have hnm := box (fun (W' : World) (hc : Calm W W') => Name_in head j W' (by omega) hp1 (tab_calm HT.out hc))
        rw [← hp3] at hnm
        have hss : (s.toList == s.toList) = true := beq_self_eq_true _
        have hss2 : (s.toList != s.toList) = false := by simp
        clear hp1 hp2 hp3
        go_wp2_with fail
        refine (hpl.out _).mono ?_
        rintro e w4 ⟨rfl, hc4⟩
        have C4 := box (C3.out.trans hc4)
        clear hc4 hpl
        go_wp2_with fail
        refine (hnm.out _ C4.out).mono ?_
        rintro e w5 ⟨rfl, hc5⟩
        have CX := box (C4.out.trans hc5)
        clear hc5 hnm
        go_wp2_with fail
        refine (AppendNil_any _ _).mono ?_
        rintro e wn ⟨rfl, rfl⟩
        go_wp2_with fail
        refine (ReadNil_any _ _ _).mono ?_
        rintro e wn ⟨rfl, rfl⟩
        go_wp2_with fail
        refine (DropNil_any _).mono ?_
        rintro e wn ⟨rfl, rfl⟩
        go_wp2_with fail
        refine (OpenNil_any _ _ _).mono ?_
        rintro e wn ⟨rfl, rfl⟩
        go_wp2_with fail
        refine (SyncNil_any _).mono ?_
        rintro e wn ⟨rfl, rfl⟩
        go_wp2_with fail
        refine (CutNil_any _ _).mono ?_
        rintro e wn ⟨rfl, hcn⟩
        have CN := box (CX.out.trans hcn)
        clear hcn
        go_wp2_with fail
        refine (BeginNil_any _).mono ?_
        rintro e wm ⟨rfl, rfl⟩
        go_wp2_with fail
        refine (EndNil_any _).mono ?_
        rintro e wm ⟨rfl, rfl⟩
        go_wp2_with fail
        refine (SyncedNil_any _).mono ?_
        rintro e wm ⟨rfl, rfl⟩
        go_wp2_with fail
        refine (RoomNil_any _).mono ?_
        rintro e wm ⟨rfl, rfl⟩
        go_wp2_with fail
        refine (LeftNil_any _ _).mono ?_
        rintro e wm ⟨rfl, rfl⟩
        go_wp2_with fail
        go_ret
        exact ⟨rfl, CN.out⟩
    · have t4 : decide (0 ≤ k) = true := decide_eq_true (by omega)
      have t5 : decide (k ≤ 99999999) = false := decide_eq_false (by omega)
      clear h3 h4
      go_wp2_with fail
      refine (hnm.out _).mono ?_
      rintro e w2 ⟨rfl, hc2⟩
      have C3 := box (C1.out.trans hc2)
      clear hc2 hnm
      rcases hps with ⟨hp1, hp2⟩ | ⟨j, hp1, hp2, hp3⟩
      · have hpl := box (fun (W' : World) => Place_any head s W' (by omega))
        rw [hp2] at hpl
        clear hp1 hp2
        go_wp2_with fail
        refine (hpl.out _).mono ?_
        rintro e w4 ⟨rfl, hc4⟩
        have CX := box (C3.out.trans hc4)
        clear hc4 hpl
        go_wp2_with fail
        refine (AppendNil_any _ _).mono ?_
        rintro e wn ⟨rfl, rfl⟩
        go_wp2_with fail
        refine (ReadNil_any _ _ _).mono ?_
        rintro e wn ⟨rfl, rfl⟩
        go_wp2_with fail
        refine (DropNil_any _).mono ?_
        rintro e wn ⟨rfl, rfl⟩
        go_wp2_with fail
        refine (OpenNil_any _ _ _).mono ?_
        rintro e wn ⟨rfl, rfl⟩
        go_wp2_with fail
        refine (SyncNil_any _).mono ?_
        rintro e wn ⟨rfl, rfl⟩
        go_wp2_with fail
        refine (CutNil_any _ _).mono ?_
        rintro e wn ⟨rfl, hcn⟩
        have CN := box (CX.out.trans hcn)
        clear hcn
        go_wp2_with fail
        refine (BeginNil_any _).mono ?_
        rintro e wm ⟨rfl, rfl⟩
        go_wp2_with fail
        refine (EndNil_any _).mono ?_
        rintro e wm ⟨rfl, rfl⟩
        go_wp2_with fail
        refine (SyncedNil_any _).mono ?_
        rintro e wm ⟨rfl, rfl⟩
        go_wp2_with fail
        refine (RoomNil_any _).mono ?_
        rintro e wm ⟨rfl, rfl⟩
        go_wp2_with fail
        refine (LeftNil_any _ _).mono ?_
        rintro e wm ⟨rfl, rfl⟩
        go_wp2_with fail
        go_ret
        exact ⟨rfl, CN.out⟩
      · have hpl := box (fun (W' : World) => Place_any head s W' (by omega))
        rw [hp2] at hpl
        have hnm := box (fun (W' : World) (hc : Calm W W') => Name_in head j W' (by omega) hp1 (tab_calm HT.out hc))
        rw [← hp3] at hnm
        have hss : (s.toList == s.toList) = true := beq_self_eq_true _
        have hss2 : (s.toList != s.toList) = false := by simp
        clear hp1 hp2 hp3
        go_wp2_with fail
        refine (hpl.out _).mono ?_
        rintro e w4 ⟨rfl, hc4⟩
        have C4 := box (C3.out.trans hc4)
        clear hc4 hpl
        go_wp2_with fail
        refine (hnm.out _ C4.out).mono ?_
        rintro e w5 ⟨rfl, hc5⟩
        have CX := box (C4.out.trans hc5)
        clear hc5 hnm
        go_wp2_with fail
        refine (AppendNil_any _ _).mono ?_
        rintro e wn ⟨rfl, rfl⟩
        go_wp2_with fail
        refine (ReadNil_any _ _ _).mono ?_
        rintro e wn ⟨rfl, rfl⟩
        go_wp2_with fail
        refine (DropNil_any _).mono ?_
        rintro e wn ⟨rfl, rfl⟩
        go_wp2_with fail
        refine (OpenNil_any _ _ _).mono ?_
        rintro e wn ⟨rfl, rfl⟩
        go_wp2_with fail
        refine (SyncNil_any _).mono ?_
        rintro e wn ⟨rfl, rfl⟩
        go_wp2_with fail
        refine (CutNil_any _ _).mono ?_
        rintro e wn ⟨rfl, hcn⟩
        have CN := box (CX.out.trans hcn)
        clear hcn
        go_wp2_with fail
        refine (BeginNil_any _).mono ?_
        rintro e wm ⟨rfl, rfl⟩
        go_wp2_with fail
        refine (EndNil_any _).mono ?_
        rintro e wm ⟨rfl, rfl⟩
        go_wp2_with fail
        refine (SyncedNil_any _).mono ?_
        rintro e wm ⟨rfl, rfl⟩
        go_wp2_with fail
        refine (RoomNil_any _).mono ?_
        rintro e wm ⟨rfl, rfl⟩
        go_wp2_with fail
        refine (LeftNil_any _ _).mono ?_
        rintro e wm ⟨rfl, rfl⟩
        go_wp2_with fail
        go_ret
        exact ⟨rfl, CN.out⟩

abbrev LAIDS : List (String × DataW Unit) := [("math/bits.deBruijn32tab", Rows.laid_math_bits_deBruijn32tab), ("math/bits.deBruijn64tab", Rows.laid_math_bits_deBruijn64tab), ("internal/strconv.uint64pow10", Rows.laid_internal_strconv_uint64pow10), ("unicode/utf8.acceptRanges", Rows.laid_unicode_utf8_acceptRanges), ("strconv.ErrRange", Rows.laid_strconv_ErrRange), ("strconv.ErrSyntax", Rows.laid_strconv_ErrSyntax), ("unicode/utf8.first", Rows.laid_unicode_utf8_first)]
theorem own : ownKnob Tryz.prog.godebug = none := by kernel_rfl
theorem laidOut : laidOutB Tryz.prog = true := by kernel_rfl
set_option maxRecDepth 100000 in
set_option linter.unusedVariables false in
theorem lifted (os : Os) (started : os.Started) (H : Type) (enc : TypeId × Value → H) :
    ReturnsInHanded {} Tryz.checked os 7 .any (fun w args => (Rows.segNamesSpec.pre enc Tryz.prog Tryz.f7 Rows.segNamesRow.domain false w args ∧ laidMetH Tryz.prog LAIDS w) ∧ sizedMet enc Tryz.prog Tryz.f7 (OpenSpec.ofChange Rows.segNamesSpec) false w args) (Rows.segNamesSpec.post enc Tryz.prog Tryz.f7 false true false false) := by
  refine handed_and_shaped (C := Tryz.checked) (X := fun w _ => laidMetH Tryz.prog LAIDS w) (fun _ _ _ hh h => h.of_heap hh) own started (by kernel_rfl) Tryz.func7
    (ChangeSpec.witness_shaped (enc := enc) (C := Tryz.checked) (os := os) (X := fun w _ => laidMetH Tryz.prog LAIDS w) false (World.laidAll Tryz.prog os LAIDS) #[.string ⟨#[]⟩, .int .i64 0, .string ⟨#[]⟩] 8 (World.laidAll_os _ _ _)
      (World.shaped_of_ZipB (by kernel_rfl) (by kernel_rfl)) (by kernel_rfl) (by kernel_rfl) (by kernel_rfl)
      (by rw [MakeChecks.laidMetH_plain _ _ _ (by kernel_rfl)]; exact laidMet_laidAll _ (by kernel_rfl) (by kernel_rfl))) ?_
  intro W base args ds gs before hval0 hW hcnd hsz0 hX hshape _
  have hsz : (DataW.weightsEach Tryz.prog (Tryz.f7.params.toList ++ []) (ds ++ gs)).all (· ≤ reachBytes) = true := hsz0
  clear hsz0
  have hval : ∀ (j : Nat) t v, Tryz.f7.params[j]? = some t → args[j]? = some v → Value.okWide Tryz.prog W .any base t v := hval0
  have hW' := hW
  obtain ⟨p, q, hA0, hV, rfl, hfz, hnd⟩ := hW
  have hA : DataW.TrodAll enc Tryz.prog W 0 (fun _ => true) true Tryz.f7.params.toList args.toList ds p := hA0
  rw [Tryz.params7] at hA hval hsz
  obtain ⟨v0, vs0, d0, ds0, p0, q0, hargs, rfl, rfl, h0, r0'⟩ := trodAll_cons hA
  obtain ⟨v1, vs1, d1, ds1, p1, q1, rfl, rfl, rfl, h1, r1'⟩ := trodAll_cons r0'
  obtain ⟨v2, vs2, d2, ds2, p2, q2, rfl, rfl, rfl, h2, r2'⟩ := trodAll_cons r1'
  obtain ⟨rfl, rfl, rfl⟩ := trodAll_nil r2'
  obtain rfl : args = #[v0, v1, v2] := by cases args; simp_all
  obtain ⟨rfl, rfl⟩ := trodVars_none hV
  clear hA0 hval0
  have wt0 := fun n hn => (by simpa using List.all_eq_true.1 hsz n (DataW.weights_mem_each (j := 0) rfl rfl n hn) : n ≤ reachBytes)
  have wt1 := fun n hn => (by simpa using List.all_eq_true.1 hsz n (DataW.weights_mem_each (j := 1) rfl rfl n hn) : n ≤ reachBytes)
  have wt2 := fun n hn => (by simpa using List.all_eq_true.1 hsz n (DataW.weights_mem_each (j := 2) rfl rfl n hn) : n ≤ reachBytes)
  have hlt : ∀ x ∈ p0 ++ (p1 ++ (p2 ++ [])), x.block < W.heap.size := fun x hx => by have := hW'.lt x (by simpa using hx); simpa using this
  have hL : laidMet Tryz.prog LAIDS W := by
    have h : laidMetH Tryz.prog LAIDS W := hX
    rw [MakeChecks.laidMetH_plain _ _ _ (by kernel_rfl)] at h
    exact h
  have htab : Lib.TabIs Tryz.prog W "internal/strconv.uint64pow10" .u64 Lib.pow10Tab :=
    Lib.tabIs_of_head (g := 2) (by kernel_rfl) (by kernel_rfl) Tryz.underlying173 Tryz.underlying128 (by kernel_rfl) (by kernel_rfl) (show laidMet Tryz.prog (("internal/strconv.uint64pow10", Lib.tabData .u64 Lib.pow10Tab) :: _) W from hL.tail.tail)
  obtain ⟨s0, e0, _, _, z0⟩ := Go.ChangeMaps.open_string Tryz.underlying9 (hval 0 9 v0 rfl rfl) h0
  subst e0
  obtain ⟨a1, e1, _, _, w1⟩ := open_int Tryz.underlying3 (hval 1 3 v1 rfl rfl) h1
  subst e1
  obtain ⟨s2, e2, _, _, z2⟩ := Go.ChangeMaps.open_string Tryz.underlying9 (hval 2 9 v2 rfl rfl) h2
  subst e2
  refine (walk W htab s0 z0 a1 w1 s2 z2).mono fun e W' ⟨he, hg⟩ => ?_
  subst he
  refine ⟨_, rfl, _, _, _, [] ++ [], p0 ++ (p1 ++ (p2 ++ [])), [], hW', ?_, ?_, ?_, hg.frame _, fun h => by cases h⟩
  · exact trodAll_mk1 (shut_bool Tryz.underlying4 true)
  · exact trodAll_cons_mk (Below.trod laidOut (by kernel_rfl) (of_decide_eq_true (by kernel_rfl)) h0 hg (fun x hx => hlt x (by simp [hx]))) (trodAll_cons_mk (Below.trod laidOut (by kernel_rfl) (of_decide_eq_true (by kernel_rfl)) h1 hg (fun x hx => hlt x (by simp [hx]))) (trodAll_cons_mk (Below.trod laidOut (by kernel_rfl) (of_decide_eq_true (by kernel_rfl)) h2 hg (fun x hx => hlt x (by simp [hx]))) (trodAll_mk0)))
  · exact rfl

theorem over : Rows.segNamesRow.holds Tryz.pinned (OpenSpec.ofChange Rows.segNamesSpec) :=
  OpenClaim.holds_of_wide 7 Tryz.f7 rfl rfl rfl rfl rfl rfl rfl ⟨rfl, rfl, rfl, rfl, rfl⟩ rfl rfl rfl rfl rfl (by kernel_rfl) Tryz.func7 (by kernel_rfl)
    (of_decide_eq_true (by kernel_rfl)) (by unfold Func.isWrapper; first | (rw [if_pos (by decide +kernel)]; kernel_rfl) | (rw [if_neg (by decide +kernel)]; exact ⟨rfl, rfl⟩))
    (fun os started H enc _ => lifted os started H enc)

theorem proved : Rows.SegNamesCardSaid :=
  Claim7.holds_tied_plain_at .later [] [.data, .data, .data, .data, .sentinel, .sentinel, .pinned] true _ true over (fun _ h => by cases h) (by kernel_rfl) (fun _ h => by cases h) segNames_row_tie rfl ⟨rfl, rfl⟩ (by kernel_rfl) rfl
    (fun f fn hf hfn => by
      obtain rfl : f = 7 := Option.some.inj ((show Tryz.prog.funcNamed "reveille/reveillelaw05.SegNames" = some 7 by kernel_rfl).symm.trans hf) |>.symm
      obtain rfl : fn = Tryz.f7 := (Option.some.inj (Tryz.func7.symm.trans hfn)).symm
      exact ⟨by kernel_rfl, fun j t ht => by
        rw [Tryz.params7] at ht
        have hm : t ∈ [9, 3, 9] := by simpa using Array.mem_of_getElem? ht
        have hall : ([9, 3, 9].all fun u => !Tryz.prog.wantsStandIn u) = true := by kernel_rfl
        exact (show Tryz.prog.wantsStandIn t = false by simpa using List.all_eq_true.1 hall t hm)⟩)
    (by kernel_rfl)
#print axioms proved
end Go.Proofs.YtafdfmdcnniccaaGreatDoor.snames
