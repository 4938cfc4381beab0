/- SegRows: two rows of unlike heads on one disk don't know of one another. The card is tied. No condition. -/
import Derived.Test.YtafdfmdcnniccaaGreatDoorRows
import Derived.WalkKit
import Derived.ProofKit
import Derived.OpenShut
import Derived.Handy
import Derived.Deep.LoopGhost
import Derived.Lib.Hide
import Derived.Lib.Strings
import Derived.SizedLaws
import Derived.Maps.Own
import Derived.Maps.OwnOps
import Derived.Maps.OwnSet
import Derived.Maps.RangeWalk
import Derived.Deep.QuietTactic
import Derived.BigQuiet
import Derived.Deep.RegionHeld3
import Derived.Lib.ConvBytes
import Derived.Lib.AppendZeros
import Derived.Lib.AppendZerosOnto
import Derived.Lib.LazyBuf
import Derived.Shelf.Abstract
import Derived.LaidEql
import Derived.Lib.SliceRun
import Derived.StillTailTactics
import Derived.Deep.Slices
import Derived.Lib.Atoi
import Derived.Lib.ItoaNum
import Derived.Lib.SlTrimSet
import Derived.Shelf.SlIter.Nil
import Derived.Ground.GgzProg
import Derived.Shelf.SortM.Plain
import Derived.Shelf.SortM.SortNone
import Derived.Ground.SlgmProg
import Derived.Shelf.SlicesE.DeleteFunc
import Derived.Ground.SlgfProg
import Derived.Test.YtafdfmdcnniccaaGreatDoorProg
import Derived.Shelf.Strings.Builder1
import Derived.Shelf.Strings.Builder2
import Derived.Shelf.Strings.Trim
import Derived.Shelf.Small.Utf8
import Derived.Shelf.Small.Bits
import Derived.Shelf.Small.Strs
import Derived.Shelf.Small.Wraps
import Derived.Shelf.Strings.BuilderF
import Derived.Shelf.Strings.BuilderK
import Derived.Shelf.Strings.Builder2Cap
import Derived.Shelf.Strconv.Atoi
import Derived.Shelf.Strconv.Itoa0
import Derived.Shelf.Strconv.Itoa1
import Derived.Shelf.LaysM
import Derived.Shelf.Strconv.Itoa2
import Derived.Shelf.Strconv.Itoa3
import Derived.Shelf.Strings.Search1
import Derived.Shelf.Sort.Plain
import Derived.Shelf.Strings.Prefix
import Derived.Shelf.Strings.Runes
import Derived.Shelf.Strings.AsciiSet
import Derived.Shelf.Bits.Mul64
import Derived.Shelf.Strings.Repeat
import Derived.Shelf.Unicode.DecodeSlow
import Derived.Shelf.Unicode.DecodeAny
import Derived.Shelf.Unicode.DecodeLast
import Derived.Shelf.Strings.BuilderCap
import Derived.Ground.Names2Prog
import Derived.Shelf.Slices.Clone
import Derived.Shelf.Slices.In.SortNone
import Derived.Ground.SlgnProg
import Derived.Shelf.SlicesE.Clone
import Derived.Shelf.SlicesE.IndexFunc
import Derived.Shelf.Strings.SlTrimAscii
import Derived.Lib.Repeat
import Derived.Lib.LaidTab
import Derived.Deep.RegionLaw
import Derived.Deep.RegionWith
import Derived.Lib.AtoiErrMem
import Derived.Test.YtafdfmdcnniccaaGreatDoorTie
import Derived.Test.YtafdfmdcnniccaaGreatDoorCards
import Derived.LaidMore
import Derived.Lay
import Derived.SevenTiedAt
import Derived.HandedShaped
import Derived.Stop.Joined
import Derived.Shelf.Vars
import Derived.Stop.LaidErr
import Derived.Deep.CutBlock
import Derived.Deep.CutRange
import Derived.Outline
import Derived.Test.YtafdfmdcnniccaaGreatDoorPk22
namespace Go.Proofs.YtafdfmdcnniccaaGreatDoor.srows
open Go.ChangeShapes Go.WideShapes Go.ChangeAt Go.RowKit
open Go.Proofs.YtafdfmdcnniccaaGreatDoor.dk Go.Proofs.YtafdfmdcnniccaaGreatDoor.sg

abbrev aN : ByteArray := ⟨#[97, 45]⟩
abbrev bN : ByteArray := ⟨#[98, 45]⟩
/-- What stands at a round's begin. -/
structure St (W : World) (p ra rb k : Nat) (al : ByteArray) (w : World) : Prop where
  at_ : ∃ m D Ra Rb ba bb F va vb, Two W p ra rb (2 * k) 1048576 m D Ra Rb ba bb F va vb w ∧ (Ra.head = aN ∧ Ra.size = 16 ∧ Ra.start = 0 ∧ Ra.fin = al.size ∧ Ra.fin ≤ 16 * k) ∧ (Rb.head = bN ∧ Rb.size = 20 ∧ Rb.synced ≤ Rb.fin ∧ Rb.fin ≤ 20 * k) ∧ m ≤ 40 * k
/-- .. behind the first row's call. -/
structure Sm (W : World) (p ra rb k : Nat) (al : ByteArray) (w : World) : Prop where
  at_ : ∃ m D Ra Rb ba bb F va vb, Two W p ra rb (2 * k + 1) 1048576 m D Ra Rb ba bb F va vb w ∧ (Ra.head = aN ∧ Ra.size = 16 ∧ Ra.start = 0 ∧ Ra.fin = al.size ∧ Ra.fin ≤ 16 * k + 16) ∧ (Rb.head = bN ∧ Rb.size = 20 ∧ Rb.synced ≤ Rb.fin ∧ Rb.fin ≤ 20 * k) ∧ m ≤ 40 * k + 17
theorem two_mono {W w : World} {p ra rb k c m : Nat} {Ra Rb : RowS} {va vb : Value} {D : DiskS} {F : Nat → Prop} {ba bb : List UInt8} (h : Two W p ra rb k c m D Ra Rb ba bb F va vb w) {k' : Nat} (hk : k ≤ k') : Two W p ra rb k' c m D Ra Rb ba bb F va vb w :=
  ⟨⟨h.a.seg.mono hk, h.a.holds, h.a.able⟩, ⟨h.b.seg.mono hk, h.b.holds, h.b.able⟩, h.ne, h.vne, h.heads⟩
theorem St.mid {W w : World} {p ra rb k : Nat} {al : ByteArray} (h : St W p ra rb k al w) : Sm W p ra rb k al w := by
  obtain ⟨m, D, Ra, Rb, ba, bb, F, va, vb, h1, ⟨a1, a2, a3, a4, a5⟩, h3, h4⟩ := h.at_
  exact ⟨m, D, Ra, Rb, ba, bb, F, va, vb, two_mono h1 (Nat.le_succ _), ⟨a1, a2, a3, a4, by omega⟩, h3, by omega⟩
theorem Sm.end {W w : World} {p ra rb k : Nat} {al : ByteArray} (h : Sm W p ra rb k al w) : St W p ra rb (k + 1) al w := by
  obtain ⟨m, D, Ra, Rb, ba, bb, F, va, vb, h1, ⟨a1, a2, a3, a4, a5⟩, ⟨b1, b2, b3, b4⟩, h4⟩ := h.at_
  exact ⟨m, D, Ra, Rb, ba, bb, F, va, vb, two_mono h1 (by omega), ⟨a1, a2, a3, a4, by omega⟩, ⟨b1, b2, b3, by omega⟩, by omega⟩
theorem St.calm {W w w' : World} {p ra rb k : Nat} {al : ByteArray} (h : St W p ra rb k al w) (hc : Calm w w') : St W p ra rb k al w' := by
  obtain ⟨m, D, Ra, Rb, ba, bb, F, va, vb, h1, h2⟩ := h.at_
  exact ⟨m, D, Ra, Rb, ba, bb, F, va, vb, h1.calm hc, h2⟩
theorem Sm.owns {W w : World} {p ra rb k : Nat} {al : ByteArray} (h : Sm W p ra rb k al w) : Calm W w := by
  obtain ⟨m, D, Ra, Rb, ba, bb, F, va, vb, h1, h2⟩ := h.at_
  exact h1.a.seg.calm
theorem St.owns {W w : World} {p ra rb k : Nat} {al : ByteArray} (h : St W p ra rb k al w) : Calm W w := by
  obtain ⟨m, D, Ra, Rb, ba, bb, F, va, vb, h1, h2⟩ := h.at_
  exact h1.a.seg.calm
/-- The first row's Append. -/
theorem St.append {W w : World} {p ra rb k : Nat} {al : ByteArray} (h : St W p ra rb k al w) (s : ByteArray) (hk : k ≤ 50) (hs : s.size ≤ 9223372036854775807) :
    Calls Tryz.prog 18 #[ptrTo ra, .string s] w fun e w' => (e = .returned (.tuple #[.int .i64 0, .int .i64 1]) ∧ Sm W p ra rb k al w') ∨ (e = .returned (.tuple #[.int .i64 (al.size : Int), .int .i64 0]) ∧ s.size ≤ 16 ∧ Sm W p ra rb k (al ++ s) w') := by
  obtain ⟨m, D, Ra, Rb, ba, bb, F, va, vb, h1, ⟨a1, a2, a3, a4, a5⟩, h3, h4⟩ := h.at_
  have hroom := h1.a.holds.ok.room
  refine (h1.a.append s (by omega) hs (fun _ _ => ⟨by omega, by omega⟩) (by rw [a1]; decide)).mono ?_
  rintro e w' (⟨_, rfl, hx⟩ | ⟨h5, h6, rfl, D', R', hx, _, _, e1, e2, e3, e4, e5⟩)
  · obtain ⟨F', va', hT⟩ := h1.next hx rfl
    exact .inl ⟨rfl, m, D, Ra, Rb, ba, bb, F', va', vb, hT, ⟨a1, a2, a3, a4, by omega⟩, h3, by omega⟩
  · obtain ⟨F', va', hT⟩ := h1.next hx e1
    exact .inr ⟨by rw [a4], by omega, _, D', R', Rb, _, bb, F', va', vb, hT, ⟨e1.trans a1, e2.trans a2, e3.trans a3, by rw [e5, a4, ByteArray.size_append], by omega⟩, h3, by omega⟩
section
variable {W w : World} {p ra rb k : Nat} {al : ByteArray}
theorem Sm.bAppend (h : Sm W p ra rb k al w) (s : ByteArray) (hk : k ≤ 50) (hs : s.size ≤ 9223372036854775807) :
    Calls Tryz.prog 18 #[ptrTo rb, .string s] w fun e w' => (∃ x y, e = .returned (.tuple #[.int .i64 x, .int .i64 y])) ∧ St W p ra rb (k + 1) al w' := by
  obtain ⟨m, D, Ra, Rb, ba, bb, F, va, vb, h1, ⟨a1, a2, a3, a4, a5⟩, ⟨b1, b2, b3, b4⟩, h4⟩ := h.at_
  have hroom := h1.b.holds.ok.room
  refine (h1.b.append s (by omega) hs (fun _ _ => ⟨by omega, by omega⟩) (by rw [b1]; decide)).mono ?_
  rintro e w' (⟨_, rfl, hx⟩ | ⟨h5, h6, rfl, D', R', hx, _, _, e1, e2, e3, e4, e5⟩)
  · obtain ⟨F', vb', hT⟩ := h1.swap.next hx rfl
    exact ⟨⟨_, _, rfl⟩, m, D, Ra, Rb, ba, bb, F', va, vb', two_mono hT.swap (by omega), ⟨a1, a2, a3, a4, by omega⟩, ⟨b1, b2, b3, by omega⟩, by omega⟩
  · obtain ⟨F', vb', hT⟩ := h1.swap.next hx e1
    exact ⟨⟨_, _, rfl⟩, _, D', Ra, R', ba, _, F', va, vb', two_mono hT.swap (by omega), ⟨a1, a2, a3, a4, by omega⟩, ⟨e1.trans b1, e2.trans b2, by omega, by omega⟩, by omega⟩
theorem Sm.bSync (h : Sm W p ra rb k al w) (hk : k ≤ 50) :
    Calls Tryz.prog 19 #[ptrTo rb] w fun e w' => e = .returned (.int .i64 0) ∧ St W p ra rb (k + 1) al w' := by
  obtain ⟨m, D, Ra, Rb, ba, bb, F, va, vb, h1, ⟨a1, a2, a3, a4, a5⟩, ⟨b1, b2, b3, b4⟩, h4⟩ := h.at_
  refine (h1.b.sync (by omega) b3).mono ?_
  rintro e w' ⟨rfl, D', hx⟩
  obtain ⟨F', vb', hT⟩ := h1.swap.next hx rfl
  exact ⟨rfl, m, D', Ra, Rb.clean, ba, bb, F', va, vb', two_mono hT.swap (by omega), ⟨a1, a2, a3, a4, by omega⟩, ⟨b1, b2, Nat.le_refl _, by show Rb.fin ≤ _; omega⟩, by omega⟩
theorem Sm.bCut (h : Sm W p ra rb k al w) (hk : k ≤ 50) (j : Int) :
    Calls Tryz.prog 23 #[ptrTo rb, .int .i64 j] w fun e w' => (∃ x, e = .returned (.int .i64 x)) ∧ St W p ra rb (k + 1) al w' := by
  obtain ⟨m, D, Ra, Rb, ba, bb, F, va, vb, h1, ⟨a1, a2, a3, a4, a5⟩, ⟨b1, b2, b3, b4⟩, h4⟩ := h.at_
  refine (h1.b.cut (by omega) j).mono ?_
  rintro e w' (⟨_, rfl, hx⟩ | ⟨i, _, h5, h6, rfl, D', R', hx, _, e1, e2, e3, e4, e5, _⟩)
  · obtain ⟨F', vb', hT⟩ := h1.swap.next hx rfl
    exact ⟨⟨_, rfl⟩, m, D, Ra, Rb, ba, bb, F', va, vb', two_mono hT.swap (by omega), ⟨a1, a2, a3, a4, by omega⟩, ⟨b1, b2, b3, by omega⟩, by omega⟩
  · obtain ⟨F', vb', hT⟩ := h1.swap.next hx e1
    exact ⟨⟨_, rfl⟩, _, D', Ra, R', ba, _, F', va, vb', two_mono hT.swap (by omega), ⟨a1, a2, a3, a4, by omega⟩, ⟨e1.trans b1, e2.trans b2, by omega, by omega⟩, by omega⟩
theorem Sm.bDrop (h : Sm W p ra rb k al w) (hk : k ≤ 50) :
    Calls Tryz.prog 24 #[ptrTo rb] w fun e w' => (∃ x y, e = .returned (.tuple #[.int .i64 x, .int .i64 y])) ∧ St W p ra rb (k + 1) al w' := by
  obtain ⟨m, D, Ra, Rb, ba, bb, F, va, vb, h1, ⟨a1, a2, a3, a4, a5⟩, ⟨b1, b2, b3, b4⟩, h4⟩ := h.at_
  refine (h1.b.drop (by omega)).mono ?_
  rintro e w' (⟨_, rfl, hx⟩ | ⟨h5, rfl, D', hx⟩)
  · obtain ⟨F', vb', hT⟩ := h1.swap.next hx rfl
    exact ⟨⟨_, _, rfl⟩, m, D, Ra, Rb, ba, bb, F', va, vb', two_mono hT.swap (by omega), ⟨a1, a2, a3, a4, by omega⟩, ⟨b1, b2, b3, by omega⟩, by omega⟩
  · obtain ⟨F', vb', hT⟩ := h1.swap.next hx rfl
    have hf := h1.b.holds.ok.fin (by omega)
    have h2 := (h1.b.holds.ok.place (k := 1) (by omega)).1
    rw [Nat.one_mul] at h2
    exact ⟨⟨_, _, rfl⟩, m, D', Ra, Rb.rest, ba, _, F', va, vb', two_mono hT.swap (by omega), ⟨a1, a2, a3, a4, by omega⟩, ⟨b1, b2, by show max Rb.synced (Rb.start + Rb.size) ≤ Rb.fin; omega, by show Rb.fin ≤ _; omega⟩, by omega⟩
theorem Sm.bOpen (h : Sm W p ra rb k al w) (hk : k ≤ 50) :
    Calls Tryz.prog 15 #[ptrTo p, .string bN, .int .i64 20] w fun e w' => ∃ r, e = .returned (.tuple #[ptrTo r, .int .i64 0]) ∧ St W p ra r (k + 1) al w' := by
  obtain ⟨m, D, Ra, Rb, ba, bb, F, va, vb, h1, ⟨a1, a2, a3, a4, a5⟩, ⟨b1, b2, b3, b4⟩, h4⟩ := h.at_
  have ho := open_law h1.b.seg.disk h1.b.seg.tab h1.b.seg.calm h1.b.seg.fW (by omega) h1.b.able (by omega) h1.b.holds
  rw [b1, b2] at ho
  refine Calls.mono ho ?_
  rintro e w' ⟨r, F', v, rfl, hr, hL, hv, hs⟩
  have hT := h1.anew hr hL hv hs rfl
  exact ⟨r, rfl, m, D, Ra, Rb.anew, ba, bb, F', va, v, two_mono hT (by omega), ⟨a1, a2, a3, a4, by omega⟩, ⟨b1, b2, by have := h1.b.holds.size; show Rb.start ≤ Rb.fin; omega, by show Rb.fin ≤ _; omega⟩, by omega⟩
theorem St.aBegin (h : St W p ra rb k al w) : Calls Tryz.prog 16 #[ptrTo ra] w fun e w' => e = .returned (.int .i64 0) ∧ w = w' := by
  obtain ⟨m, D, Ra, Rb, ba, bb, F, va, vb, h1, ⟨a1, a2, a3, a4, a5⟩, _⟩ := h.at_
  have := Begin_any w h1.a.seg.row
  rw [a3] at this
  exact this
theorem St.aEnd (h : St W p ra rb k al w) : Calls Tryz.prog 17 #[ptrTo ra] w fun e w' => e = .returned (.int .i64 (al.size : Int)) ∧ w = w' := by
  obtain ⟨m, D, Ra, Rb, ba, bb, F, va, vb, h1, ⟨a1, a2, a3, a4, a5⟩, _⟩ := h.at_
  have := End_any w h1.a.seg.row
  rw [a4] at this
  exact this
theorem St.aOpen (h : St W p ra rb k al w) (hk : k ≤ 50) :
    Calls Tryz.prog 15 #[ptrTo p, .string aN, .int .i64 16] w fun e w' => ∃ r, e = .returned (.tuple #[ptrTo r, .int .i64 0]) ∧ St W p r rb (k + 1) al w' := by
  obtain ⟨m, D, Ra, Rb, ba, bb, F, va, vb, h1, ⟨a1, a2, a3, a4, a5⟩, ⟨b1, b2, b3, b4⟩, h4⟩ := h.at_
  have ho := open_law h1.a.seg.disk h1.a.seg.tab h1.a.seg.calm h1.a.seg.fW (by omega) h1.a.able (by omega) h1.a.holds
  rw [a1, a2] at ho
  refine Calls.mono ho ?_
  rintro e w' ⟨r, F', v, rfl, hr, hL, hv, hs⟩
  have hT := (h1.swap.anew hr hL hv hs rfl).swap
  exact ⟨r, rfl, m, D, Ra.anew, Rb, ba, bb, F', v, vb, two_mono hT (by omega), ⟨a1, a2, a3, a4, by show Ra.fin ≤ _; omega⟩, ⟨b1, b2, b3, by omega⟩, by omega⟩
end
set_option maxRecDepth 100000 in
set_option maxHeartbeats 16000000 in
theorem walk (W : World) (ht : Tab W) (v0 : Value) (l : List Op5) (r0 : RowsAt Op5R 4 W v0 l) (v1 : Value) (m : List Op5) (r1 : RowsAt Op5R 4 W v1 m) :
    Calls Tryz.prog 5 #[v0, v1] W fun e W' => e = .returned (.bool true) ∧ Calm W W' := by
  obtain ⟨la, lcap, rfl, hll, hle⟩ := sg.RowsAt.ops5 r0
  obtain ⟨ma, mcap, rfl, hml, hme⟩ := sg.RowsAt.ops5 r1
  have Hle := box hle
  have Hme := box hme
  have haw := box (awake_any W ht)
  have HT := box ht
  unfold maxLen at hll hml
  clear ht r0 r1 hle hme
  go_enter Tryz.func5, Tryz.ntmps5
  go_wp2_with fail
  refine haw.out.mono ?_
  rintro e w1 ⟨rfl, hc1⟩
  have C1 := box hc1
  clear hc1 haw
  by_cases h1 : 50 < l.length
  · have t1 : decide ((50 : Int) < (l.length : Int)) = true := decide_eq_true (by omega)
    go_wp2_with fail
    go_ret
    exact ⟨rfl, C1.out⟩
  have t1 : decide ((50 : Int) < (l.length : Int)) = false := decide_eq_false (by omega)
  by_cases h2 : 50 < m.length
  · have t2 : decide ((50 : Int) < (m.length : Int)) = true := decide_eq_true (by omega)
    go_wp2_with fail
    go_ret
    exact ⟨rfl, C1.out⟩
  have t2 : decide ((50 : Int) < (m.length : Int)) = false := decide_eq_false (by omega)
  have hl50 : l.length ≤ 50 := by omega
  have hm50 : m.length ≤ 50 := by omega
  clear h1 h2 hll hml
  go_wp2_with fail
  refine (New_ok _ 1048576).mono ?_
  rintro e w2 ⟨p, F, rfl, hd, hc2, hF⟩
  have C2 := box (C1.out.trans hc2)
  have HFW := box (fun b (hb : F b) => Nat.le_trans C1.out.size (hF b hb))
  have hoa := box (open_new (c := 1048576) (n := 0) hd HT.out C2.out HFW.out (by decide) (by decide) aN 16 (by decide) (by decide))
  clear hd hc2 hF
  go_wp2_with fail
  refine hoa.out.mono ?_
  rintro e w3 ⟨ra, F3, va, rfl, hra, hLa, _, hs3⟩
  have HLa := box hLa
  have hob := box (open_law (R := ⟨bN, 20, 0, 0, 0, 0⟩) (b := []) hLa.seg.disk HT.out hLa.seg.calm hLa.seg.fW (by decide) hLa.able (by decide) (Holds.none (by decide) (by decide) (fun k _ => rfl)))
  clear hLa hoa hra hs3
  go_wp2_with fail
  refine hob.out.mono ?_
  rintro e w4 ⟨rb, F4, vb, rfl, hrb, hLb, hvb, hs4⟩
  have HS0 := box (show St W p ra rb 0 ⟨#[]⟩ w4 from ⟨0, dk.new 1048576, ⟨aN, 16, 0, 0, 0, 0⟩, ⟨bN, 20, 0, 0, 0, 0⟩, [], [], F4, va, vb, ⟨⟨⟨hLb.seg.disk, HLa.out.seg.row.step HLa.out.seg.disk hs4, HT.out, hLb.seg.calm, hLb.seg.fW, HLa.out.seg.rW, HLa.out.seg.vW⟩, HLa.out.holds, HLa.out.able⟩, hLb, fun e => (by have := heap_lt HLa.out.seg.row.at_; omega), fun g hg e => (by have := (HLa.out.seg.row.row.lt g hg).2; have := hvb g e; omega), (by decide)⟩, ⟨rfl, rfl, rfl, rfl, Nat.le_refl _⟩, ⟨rfl, rfl, Nat.le_refl _, Nat.le_refl _⟩, Nat.le_refl _⟩)
  clear hLb hob hvb hs4 hrb HLa C1 C2 HFW
  go_wp2_with fail
  go_loopw [8, 10, 12] (fun bv sv iv wr => ∃ (i rb : Nat) (al : ByteArray), i ≤ max l.length m.length ∧ iv = .int .i64 i ∧ bv = ptrTo rb ∧ sv = .string al ∧ al.size ≤ 16 * i ∧ Box (St W p ra rb i al wr)) (fun _ _ iv _ => max l.length m.length - (intOf iv).toNat)
  case atStart => exact ⟨0, rb, ⟨#[]⟩, Nat.zero_le _, rfl, rfl, rfl, Nat.le_refl _, HS0⟩
  case round =>
    clear HS0
    obtain ⟨i, rb', al, hi, rfl, rfl, rfl, hal, HS⟩ := hrel
    obtain ⟨wo, hwo⟩ : ∃ wo : World, wo = wr := ⟨_, rfl⟩
    subst hwo
    by_cases hlt : i < max l.length m.length
    · have t3 : decide ((i : Int) < max (l.length : Int) (m.length : Int)) = true := decide_eq_true (by omega)
      have hi50 : i ≤ 49 := by omega
      by_cases hal0 : i < l.length
      · have ta : decide ((i : Int) < (l.length : Int)) = true := decide_eq_true (by omega)
        obtain ⟨lb, loff, rfl, hlb, lc0, lc1, lc2, lc3, lz, _⟩ := Hle.out i hal0
        have hcw := HS.out.owns
        have d0 := (hcw.cell (p := ⟨lb, loff + i * 4, none⟩) hlb).trans lc0
        have d3 := (hcw.cell (p := ⟨lb, loff + i * 4 + 3, none⟩) hlb).trans lc3
        have dl := Nat.lt_of_lt_of_le hlb hcw.size
        obtain ⟨pk, pa, pn, ps, hp⟩ : ∃ ok oa on os, l[i] = ⟨ok, oa, on, os⟩ := ⟨_, _, _, _, rfl⟩
        rw [hp] at d0 d3 lz lc3
        simp only at d0 d3 lz lc3
        unfold maxLen at lz
        clear lc0 lc1 lc2 hcw hp
        by_cases hp0 : pk = 0
        · subst hp0
          go_wp2_with fail
          refine (HS.out.append ps (by omega) (by omega)).mono ?_
          rintro e wa (⟨rfl, hm⟩ | ⟨rfl, hps, hm⟩)
          · have HM := box hm
            have hal2 : al.size ≤ 16 * (i + 1) := by omega
            clear hm d0 d3 dl lc3
            by_cases hbm : i < m.length
            · have tb : decide ((i : Int) < (m.length : Int)) = true := decide_eq_true (by omega)
              obtain ⟨mb, moff, rfl, hmb, mc0, mc1, mc2, mc3, mz, _⟩ := Hme.out i hbm
              have hcw := HM.out.owns
              have x0 := (hcw.cell (p := ⟨mb, moff + i * 4, none⟩) hmb).trans mc0
              have x1 := (hcw.cell (p := ⟨mb, moff + i * 4 + 1, none⟩) hmb).trans mc1
              have x3 := (hcw.cell (p := ⟨mb, moff + i * 4 + 3, none⟩) hmb).trans mc3
              have xl := Nat.lt_of_lt_of_le hmb hcw.size
              obtain ⟨ok, oa, on, os, ho⟩ : ∃ ok oa on os, m[i] = ⟨ok, oa, on, os⟩ := ⟨_, _, _, _, rfl⟩
              rw [ho] at x0 x1 x3 mz
              simp only at x0 x1 x3 mz
              unfold maxLen at mz
              clear mc0 mc1 mc2 mc3 hmb hcw ho
              by_cases hk0 : ok = 0
              · subst hk0
                go_wp2_with fail
                refine (HM.out.bAppend os (by omega) (by omega)).mono ?_
                rintro e wz ⟨⟨x, y, rfl⟩, hz⟩
                have HZ := box hz
                clear hz x0 x1 x3 xl
                go_wp2_with fail
                refine HZ.out.aBegin.mono ?_
                rintro e wu ⟨rfl, rfl⟩
                go_wp2_with fail
                refine HZ.out.aEnd.mono ?_
                rintro e wu ⟨rfl, rfl⟩
                go_wp2_with fail
                go_roundw
                case rel => exact ⟨i + 1, rb', al, by omega, by go_num, rfl, rfl, by omega, HZ⟩
                case measure => simp [intOf]; omega
              by_cases hk2 : ok = 2
              · subst hk2
                go_wp2_with fail
                refine (HM.out.bSync (by omega)).mono ?_
                rintro e wz ⟨rfl, hz⟩
                have HZ := box hz
                clear hz x0 x1 x3 xl
                go_wp2_with fail
                refine HZ.out.aBegin.mono ?_
                rintro e wu ⟨rfl, rfl⟩
                go_wp2_with fail
                refine HZ.out.aEnd.mono ?_
                rintro e wu ⟨rfl, rfl⟩
                go_wp2_with fail
                go_roundw
                case rel => exact ⟨i + 1, rb', al, by omega, by go_num, rfl, rfl, by omega, HZ⟩
                case measure => simp [intOf]; omega
              by_cases hk3 : ok = 3
              · subst hk3
                go_wp2_with fail
                refine (HM.out.bCut (by omega) oa).mono ?_
                rintro e wz ⟨⟨x, rfl⟩, hz⟩
                have HZ := box hz
                clear hz x0 x1 x3 xl
                go_wp2_with fail
                refine HZ.out.aBegin.mono ?_
                rintro e wu ⟨rfl, rfl⟩
                go_wp2_with fail
                refine HZ.out.aEnd.mono ?_
                rintro e wu ⟨rfl, rfl⟩
                go_wp2_with fail
                go_roundw
                case rel => exact ⟨i + 1, rb', al, by omega, by go_num, rfl, rfl, by omega, HZ⟩
                case measure => simp [intOf]; omega
              by_cases hk4 : ok = 4
              · subst hk4
                go_wp2_with fail
                refine (HM.out.bDrop (by omega)).mono ?_
                rintro e wz ⟨⟨x, y, rfl⟩, hz⟩
                have HZ := box hz
                clear hz x0 x1 x3 xl
                go_wp2_with fail
                refine HZ.out.aBegin.mono ?_
                rintro e wu ⟨rfl, rfl⟩
                go_wp2_with fail
                refine HZ.out.aEnd.mono ?_
                rintro e wu ⟨rfl, rfl⟩
                go_wp2_with fail
                go_roundw
                case rel => exact ⟨i + 1, rb', al, by omega, by go_num, rfl, rfl, by omega, HZ⟩
                case measure => simp [intOf]; omega
              by_cases hk5 : ok = 5
              · subst hk5
                go_wp2_with fail
                refine (HM.out.bOpen (by omega)).mono ?_
                rintro e wz ⟨rb2, rfl, hz⟩
                have HZ := box hz
                clear hz x0 x1 x3 xl
                go_wp2_with fail
                refine HZ.out.aBegin.mono ?_
                rintro e wu ⟨rfl, rfl⟩
                go_wp2_with fail
                refine HZ.out.aEnd.mono ?_
                rintro e wu ⟨rfl, rfl⟩
                go_wp2_with fail
                go_roundw
                case rel => exact ⟨i + 1, rb2, al, by omega, by go_num, rfl, rfl, by omega, HZ⟩
                case measure => simp [intOf]; omega
              · have z0 : (ok == 0) = false := beq_eq_false_iff_ne.2 hk0
                have z2 : (ok == 2) = false := beq_eq_false_iff_ne.2 hk2
                have z3 : (ok == 3) = false := beq_eq_false_iff_ne.2 hk3
                have z4 : (ok == 4) = false := beq_eq_false_iff_ne.2 hk4
                have z5 : (ok == 5) = false := beq_eq_false_iff_ne.2 hk5
                have HZ := box HM.out.end
                clear hk0 hk2 hk3 hk4 hk5
                go_wp2_with fail
                refine HZ.out.aBegin.mono ?_
                rintro e wu ⟨rfl, rfl⟩
                go_wp2_with fail
                refine HZ.out.aEnd.mono ?_
                rintro e wu ⟨rfl, rfl⟩
                go_wp2_with fail
                go_roundw
                case rel => exact ⟨i + 1, rb', al, by omega, by go_num, rfl, rfl, by omega, HZ⟩
                case measure => simp [intOf]; omega
            · have tb : decide ((i : Int) < (m.length : Int)) = false := decide_eq_false (by omega)
              have HZ := box HM.out.end
              go_wp2_with fail
              refine HZ.out.aBegin.mono ?_
              rintro e wu ⟨rfl, rfl⟩
              go_wp2_with fail
              refine HZ.out.aEnd.mono ?_
              rintro e wu ⟨rfl, rfl⟩
              go_wp2_with fail
              go_roundw
              case rel => exact ⟨i + 1, rb', al, by omega, by go_num, rfl, rfl, by omega, HZ⟩
              case measure => simp [intOf]; omega
          · have HM := box hm
            have e3 := (hm.owns.cell (p := ⟨lb, loff + i * 4 + 3, none⟩) hlb).trans lc3
            have el := Nat.lt_of_lt_of_le hlb hm.owns.size
            have hsz : (al ++ ps).size = al.size + ps.size := ByteArray.size_append
            have hal2 : (al ++ ps).size ≤ 16 * (i + 1) := by omega
            clear hm d0 d3 dl lc3
            go_upto_region 20 with fail
            clear e3 el
            obtain ⟨al2, hal3⟩ : ∃ x, al ++ ps = x := ⟨_, rfl⟩
            rw [hal3] at HM hal2 ⊢
            clear hal3 hsz
            by_cases hbm : i < m.length
            · have tb : decide ((i : Int) < (m.length : Int)) = true := decide_eq_true (by omega)
              obtain ⟨mb, moff, rfl, hmb, mc0, mc1, mc2, mc3, mz, _⟩ := Hme.out i hbm
              have hcw := HM.out.owns
              have x0 := (hcw.cell (p := ⟨mb, moff + i * 4, none⟩) hmb).trans mc0
              have x1 := (hcw.cell (p := ⟨mb, moff + i * 4 + 1, none⟩) hmb).trans mc1
              have x3 := (hcw.cell (p := ⟨mb, moff + i * 4 + 3, none⟩) hmb).trans mc3
              have xl := Nat.lt_of_lt_of_le hmb hcw.size
              obtain ⟨ok, oa, on, os, ho⟩ : ∃ ok oa on os, m[i] = ⟨ok, oa, on, os⟩ := ⟨_, _, _, _, rfl⟩
              rw [ho] at x0 x1 x3 mz
              simp only at x0 x1 x3 mz
              unfold maxLen at mz
              clear mc0 mc1 mc2 mc3 hmb hcw ho
              by_cases hk0 : ok = 0
              · subst hk0
                go_wp2_with fail
                refine (HM.out.bAppend os (by omega) (by omega)).mono ?_
                rintro e wz ⟨⟨x, y, rfl⟩, hz⟩
                have HZ := box hz
                clear hz x0 x1 x3 xl
                go_wp2_with fail
                refine HZ.out.aBegin.mono ?_
                rintro e wu ⟨rfl, rfl⟩
                go_wp2_with fail
                refine HZ.out.aEnd.mono ?_
                rintro e wu ⟨rfl, rfl⟩
                go_wp2_with fail
                go_roundw
                case rel => exact ⟨i + 1, rb', al2, by omega, by go_num, rfl, rfl, by omega, HZ⟩
                case measure => simp [intOf]; omega
              by_cases hk2 : ok = 2
              · subst hk2
                go_wp2_with fail
                refine (HM.out.bSync (by omega)).mono ?_
                rintro e wz ⟨rfl, hz⟩
                have HZ := box hz
                clear hz x0 x1 x3 xl
                go_wp2_with fail
                refine HZ.out.aBegin.mono ?_
                rintro e wu ⟨rfl, rfl⟩
                go_wp2_with fail
                refine HZ.out.aEnd.mono ?_
                rintro e wu ⟨rfl, rfl⟩
                go_wp2_with fail
                go_roundw
                case rel => exact ⟨i + 1, rb', al2, by omega, by go_num, rfl, rfl, by omega, HZ⟩
                case measure => simp [intOf]; omega
              by_cases hk3 : ok = 3
              · subst hk3
                go_wp2_with fail
                refine (HM.out.bCut (by omega) oa).mono ?_
                rintro e wz ⟨⟨x, rfl⟩, hz⟩
                have HZ := box hz
                clear hz x0 x1 x3 xl
                go_wp2_with fail
                refine HZ.out.aBegin.mono ?_
                rintro e wu ⟨rfl, rfl⟩
                go_wp2_with fail
                refine HZ.out.aEnd.mono ?_
                rintro e wu ⟨rfl, rfl⟩
                go_wp2_with fail
                go_roundw
                case rel => exact ⟨i + 1, rb', al2, by omega, by go_num, rfl, rfl, by omega, HZ⟩
                case measure => simp [intOf]; omega
              by_cases hk4 : ok = 4
              · subst hk4
                go_wp2_with fail
                refine (HM.out.bDrop (by omega)).mono ?_
                rintro e wz ⟨⟨x, y, rfl⟩, hz⟩
                have HZ := box hz
                clear hz x0 x1 x3 xl
                go_wp2_with fail
                refine HZ.out.aBegin.mono ?_
                rintro e wu ⟨rfl, rfl⟩
                go_wp2_with fail
                refine HZ.out.aEnd.mono ?_
                rintro e wu ⟨rfl, rfl⟩
                go_wp2_with fail
                go_roundw
                case rel => exact ⟨i + 1, rb', al2, by omega, by go_num, rfl, rfl, by omega, HZ⟩
                case measure => simp [intOf]; omega
              by_cases hk5 : ok = 5
              · subst hk5
                go_wp2_with fail
                refine (HM.out.bOpen (by omega)).mono ?_
                rintro e wz ⟨rb2, rfl, hz⟩
                have HZ := box hz
                clear hz x0 x1 x3 xl
                go_wp2_with fail
                refine HZ.out.aBegin.mono ?_
                rintro e wu ⟨rfl, rfl⟩
                go_wp2_with fail
                refine HZ.out.aEnd.mono ?_
                rintro e wu ⟨rfl, rfl⟩
                go_wp2_with fail
                go_roundw
                case rel => exact ⟨i + 1, rb2, al2, by omega, by go_num, rfl, rfl, by omega, HZ⟩
                case measure => simp [intOf]; omega
              · have z0 : (ok == 0) = false := beq_eq_false_iff_ne.2 hk0
                have z2 : (ok == 2) = false := beq_eq_false_iff_ne.2 hk2
                have z3 : (ok == 3) = false := beq_eq_false_iff_ne.2 hk3
                have z4 : (ok == 4) = false := beq_eq_false_iff_ne.2 hk4
                have z5 : (ok == 5) = false := beq_eq_false_iff_ne.2 hk5
                have HZ := box HM.out.end
                clear hk0 hk2 hk3 hk4 hk5
                go_wp2_with fail
                refine HZ.out.aBegin.mono ?_
                rintro e wu ⟨rfl, rfl⟩
                go_wp2_with fail
                refine HZ.out.aEnd.mono ?_
                rintro e wu ⟨rfl, rfl⟩
                go_wp2_with fail
                go_roundw
                case rel => exact ⟨i + 1, rb', al2, by omega, by go_num, rfl, rfl, by omega, HZ⟩
                case measure => simp [intOf]; omega
            · have tb : decide ((i : Int) < (m.length : Int)) = false := decide_eq_false (by omega)
              have HZ := box HM.out.end
              go_wp2_with fail
              refine HZ.out.aBegin.mono ?_
              rintro e wu ⟨rfl, rfl⟩
              go_wp2_with fail
              refine HZ.out.aEnd.mono ?_
              rintro e wu ⟨rfl, rfl⟩
              go_wp2_with fail
              go_roundw
              case rel => exact ⟨i + 1, rb', al2, by omega, by go_num, rfl, rfl, by omega, HZ⟩
              case measure => simp [intOf]; omega
        · have tp : (pk == 0) = false := beq_eq_false_iff_ne.2 hp0
          have HM := box HS.out.mid
          have hal2 : al.size ≤ 16 * (i + 1) := by omega
          go_upto_region 20 with fail
          clear d0 d3 dl lc3 hp0
          by_cases hbm : i < m.length
          · have tb : decide ((i : Int) < (m.length : Int)) = true := decide_eq_true (by omega)
            obtain ⟨mb, moff, rfl, hmb, mc0, mc1, mc2, mc3, mz, _⟩ := Hme.out i hbm
            have hcw := HM.out.owns
            have x0 := (hcw.cell (p := ⟨mb, moff + i * 4, none⟩) hmb).trans mc0
            have x1 := (hcw.cell (p := ⟨mb, moff + i * 4 + 1, none⟩) hmb).trans mc1
            have x3 := (hcw.cell (p := ⟨mb, moff + i * 4 + 3, none⟩) hmb).trans mc3
            have xl := Nat.lt_of_lt_of_le hmb hcw.size
            obtain ⟨ok, oa, on, os, ho⟩ : ∃ ok oa on os, m[i] = ⟨ok, oa, on, os⟩ := ⟨_, _, _, _, rfl⟩
            rw [ho] at x0 x1 x3 mz
            simp only at x0 x1 x3 mz
            unfold maxLen at mz
            clear mc0 mc1 mc2 mc3 hmb hcw ho
            by_cases hk0 : ok = 0
            · subst hk0
              go_wp2_with fail
              refine (HM.out.bAppend os (by omega) (by omega)).mono ?_
              rintro e wz ⟨⟨x, y, rfl⟩, hz⟩
              have HZ := box hz
              clear hz x0 x1 x3 xl
              go_wp2_with fail
              refine HZ.out.aBegin.mono ?_
              rintro e wu ⟨rfl, rfl⟩
              go_wp2_with fail
              refine HZ.out.aEnd.mono ?_
              rintro e wu ⟨rfl, rfl⟩
              go_wp2_with fail
              go_roundw
              case rel => exact ⟨i + 1, rb', al, by omega, by go_num, rfl, rfl, by omega, HZ⟩
              case measure => simp [intOf]; omega
            by_cases hk2 : ok = 2
            · subst hk2
              go_wp2_with fail
              refine (HM.out.bSync (by omega)).mono ?_
              rintro e wz ⟨rfl, hz⟩
              have HZ := box hz
              clear hz x0 x1 x3 xl
              go_wp2_with fail
              refine HZ.out.aBegin.mono ?_
              rintro e wu ⟨rfl, rfl⟩
              go_wp2_with fail
              refine HZ.out.aEnd.mono ?_
              rintro e wu ⟨rfl, rfl⟩
              go_wp2_with fail
              go_roundw
              case rel => exact ⟨i + 1, rb', al, by omega, by go_num, rfl, rfl, by omega, HZ⟩
              case measure => simp [intOf]; omega
            by_cases hk3 : ok = 3
            · subst hk3
              go_wp2_with fail
              refine (HM.out.bCut (by omega) oa).mono ?_
              rintro e wz ⟨⟨x, rfl⟩, hz⟩
              have HZ := box hz
              clear hz x0 x1 x3 xl
              go_wp2_with fail
              refine HZ.out.aBegin.mono ?_
              rintro e wu ⟨rfl, rfl⟩
              go_wp2_with fail
              refine HZ.out.aEnd.mono ?_
              rintro e wu ⟨rfl, rfl⟩
              go_wp2_with fail
              go_roundw
              case rel => exact ⟨i + 1, rb', al, by omega, by go_num, rfl, rfl, by omega, HZ⟩
              case measure => simp [intOf]; omega
            by_cases hk4 : ok = 4
            · subst hk4
              go_wp2_with fail
              refine (HM.out.bDrop (by omega)).mono ?_
              rintro e wz ⟨⟨x, y, rfl⟩, hz⟩
              have HZ := box hz
              clear hz x0 x1 x3 xl
              go_wp2_with fail
              refine HZ.out.aBegin.mono ?_
              rintro e wu ⟨rfl, rfl⟩
              go_wp2_with fail
              refine HZ.out.aEnd.mono ?_
              rintro e wu ⟨rfl, rfl⟩
              go_wp2_with fail
              go_roundw
              case rel => exact ⟨i + 1, rb', al, by omega, by go_num, rfl, rfl, by omega, HZ⟩
              case measure => simp [intOf]; omega
            by_cases hk5 : ok = 5
            · subst hk5
              go_wp2_with fail
              refine (HM.out.bOpen (by omega)).mono ?_
              rintro e wz ⟨rb2, rfl, hz⟩
              have HZ := box hz
              clear hz x0 x1 x3 xl
              go_wp2_with fail
              refine HZ.out.aBegin.mono ?_
              rintro e wu ⟨rfl, rfl⟩
              go_wp2_with fail
              refine HZ.out.aEnd.mono ?_
              rintro e wu ⟨rfl, rfl⟩
              go_wp2_with fail
              go_roundw
              case rel => exact ⟨i + 1, rb2, al, by omega, by go_num, rfl, rfl, by omega, HZ⟩
              case measure => simp [intOf]; omega
            · have z0 : (ok == 0) = false := beq_eq_false_iff_ne.2 hk0
              have z2 : (ok == 2) = false := beq_eq_false_iff_ne.2 hk2
              have z3 : (ok == 3) = false := beq_eq_false_iff_ne.2 hk3
              have z4 : (ok == 4) = false := beq_eq_false_iff_ne.2 hk4
              have z5 : (ok == 5) = false := beq_eq_false_iff_ne.2 hk5
              have HZ := box HM.out.end
              clear hk0 hk2 hk3 hk4 hk5
              go_wp2_with fail
              refine HZ.out.aBegin.mono ?_
              rintro e wu ⟨rfl, rfl⟩
              go_wp2_with fail
              refine HZ.out.aEnd.mono ?_
              rintro e wu ⟨rfl, rfl⟩
              go_wp2_with fail
              go_roundw
              case rel => exact ⟨i + 1, rb', al, by omega, by go_num, rfl, rfl, by omega, HZ⟩
              case measure => simp [intOf]; omega
          · have tb : decide ((i : Int) < (m.length : Int)) = false := decide_eq_false (by omega)
            have HZ := box HM.out.end
            go_wp2_with fail
            refine HZ.out.aBegin.mono ?_
            rintro e wu ⟨rfl, rfl⟩
            go_wp2_with fail
            refine HZ.out.aEnd.mono ?_
            rintro e wu ⟨rfl, rfl⟩
            go_wp2_with fail
            go_roundw
            case rel => exact ⟨i + 1, rb', al, by omega, by go_num, rfl, rfl, by omega, HZ⟩
            case measure => simp [intOf]; omega
      · have ta : decide ((i : Int) < (l.length : Int)) = false := decide_eq_false (by omega)
        have HM := box HS.out.mid
        have hal2 : al.size ≤ 16 * (i + 1) := by omega
        go_upto_region 20 with fail
        by_cases hbm : i < m.length
        · have tb : decide ((i : Int) < (m.length : Int)) = true := decide_eq_true (by omega)
          obtain ⟨mb, moff, rfl, hmb, mc0, mc1, mc2, mc3, mz, _⟩ := Hme.out i hbm
          have hcw := HM.out.owns
          have x0 := (hcw.cell (p := ⟨mb, moff + i * 4, none⟩) hmb).trans mc0
          have x1 := (hcw.cell (p := ⟨mb, moff + i * 4 + 1, none⟩) hmb).trans mc1
          have x3 := (hcw.cell (p := ⟨mb, moff + i * 4 + 3, none⟩) hmb).trans mc3
          have xl := Nat.lt_of_lt_of_le hmb hcw.size
          obtain ⟨ok, oa, on, os, ho⟩ : ∃ ok oa on os, m[i] = ⟨ok, oa, on, os⟩ := ⟨_, _, _, _, rfl⟩
          rw [ho] at x0 x1 x3 mz
          simp only at x0 x1 x3 mz
          unfold maxLen at mz
          clear mc0 mc1 mc2 mc3 hmb hcw ho
          by_cases hk0 : ok = 0
          · subst hk0
            go_wp2_with fail
            refine (HM.out.bAppend os (by omega) (by omega)).mono ?_
            rintro e wz ⟨⟨x, y, rfl⟩, hz⟩
            have HZ := box hz
            clear hz x0 x1 x3 xl
            go_wp2_with fail
            refine HZ.out.aBegin.mono ?_
            rintro e wu ⟨rfl, rfl⟩
            go_wp2_with fail
            refine HZ.out.aEnd.mono ?_
            rintro e wu ⟨rfl, rfl⟩
            go_wp2_with fail
            go_roundw
            case rel => exact ⟨i + 1, rb', al, by omega, by go_num, rfl, rfl, by omega, HZ⟩
            case measure => simp [intOf]; omega
          by_cases hk2 : ok = 2
          · subst hk2
            go_wp2_with fail
            refine (HM.out.bSync (by omega)).mono ?_
            rintro e wz ⟨rfl, hz⟩
            have HZ := box hz
            clear hz x0 x1 x3 xl
            go_wp2_with fail
            refine HZ.out.aBegin.mono ?_
            rintro e wu ⟨rfl, rfl⟩
            go_wp2_with fail
            refine HZ.out.aEnd.mono ?_
            rintro e wu ⟨rfl, rfl⟩
            go_wp2_with fail
            go_roundw
            case rel => exact ⟨i + 1, rb', al, by omega, by go_num, rfl, rfl, by omega, HZ⟩
            case measure => simp [intOf]; omega
          by_cases hk3 : ok = 3
          · subst hk3
            go_wp2_with fail
            refine (HM.out.bCut (by omega) oa).mono ?_
            rintro e wz ⟨⟨x, rfl⟩, hz⟩
            have HZ := box hz
            clear hz x0 x1 x3 xl
            go_wp2_with fail
            refine HZ.out.aBegin.mono ?_
            rintro e wu ⟨rfl, rfl⟩
            go_wp2_with fail
            refine HZ.out.aEnd.mono ?_
            rintro e wu ⟨rfl, rfl⟩
            go_wp2_with fail
            go_roundw
            case rel => exact ⟨i + 1, rb', al, by omega, by go_num, rfl, rfl, by omega, HZ⟩
            case measure => simp [intOf]; omega
          by_cases hk4 : ok = 4
          · subst hk4
            go_wp2_with fail
            refine (HM.out.bDrop (by omega)).mono ?_
            rintro e wz ⟨⟨x, y, rfl⟩, hz⟩
            have HZ := box hz
            clear hz x0 x1 x3 xl
            go_wp2_with fail
            refine HZ.out.aBegin.mono ?_
            rintro e wu ⟨rfl, rfl⟩
            go_wp2_with fail
            refine HZ.out.aEnd.mono ?_
            rintro e wu ⟨rfl, rfl⟩
            go_wp2_with fail
            go_roundw
            case rel => exact ⟨i + 1, rb', al, by omega, by go_num, rfl, rfl, by omega, HZ⟩
            case measure => simp [intOf]; omega
          by_cases hk5 : ok = 5
          · subst hk5
            go_wp2_with fail
            refine (HM.out.bOpen (by omega)).mono ?_
            rintro e wz ⟨rb2, rfl, hz⟩
            have HZ := box hz
            clear hz x0 x1 x3 xl
            go_wp2_with fail
            refine HZ.out.aBegin.mono ?_
            rintro e wu ⟨rfl, rfl⟩
            go_wp2_with fail
            refine HZ.out.aEnd.mono ?_
            rintro e wu ⟨rfl, rfl⟩
            go_wp2_with fail
            go_roundw
            case rel => exact ⟨i + 1, rb2, al, by omega, by go_num, rfl, rfl, by omega, HZ⟩
            case measure => simp [intOf]; omega
          · have z0 : (ok == 0) = false := beq_eq_false_iff_ne.2 hk0
            have z2 : (ok == 2) = false := beq_eq_false_iff_ne.2 hk2
            have z3 : (ok == 3) = false := beq_eq_false_iff_ne.2 hk3
            have z4 : (ok == 4) = false := beq_eq_false_iff_ne.2 hk4
            have z5 : (ok == 5) = false := beq_eq_false_iff_ne.2 hk5
            have HZ := box HM.out.end
            clear hk0 hk2 hk3 hk4 hk5
            go_wp2_with fail
            refine HZ.out.aBegin.mono ?_
            rintro e wu ⟨rfl, rfl⟩
            go_wp2_with fail
            refine HZ.out.aEnd.mono ?_
            rintro e wu ⟨rfl, rfl⟩
            go_wp2_with fail
            go_roundw
            case rel => exact ⟨i + 1, rb', al, by omega, by go_num, rfl, rfl, by omega, HZ⟩
            case measure => simp [intOf]; omega
        · have tb : decide ((i : Int) < (m.length : Int)) = false := decide_eq_false (by omega)
          have HZ := box HM.out.end
          go_wp2_with fail
          refine HZ.out.aBegin.mono ?_
          rintro e wu ⟨rfl, rfl⟩
          go_wp2_with fail
          refine HZ.out.aEnd.mono ?_
          rintro e wu ⟨rfl, rfl⟩
          go_wp2_with fail
          go_roundw
          case rel => exact ⟨i + 1, rb', al, by omega, by go_num, rfl, rfl, by omega, HZ⟩
          case measure => simp [intOf]; omega
    · have t3 : decide ((i : Int) < max (l.length : Int) (m.length : Int)) = false := decide_eq_false (by omega)
      go_wp2_with fail
      refine (HS.out.aOpen (by omega)).mono ?_
      rintro e wz ⟨rz, rfl, hz⟩
      have HZ := box hz
      clear hz
      go_wp2_with fail
      refine HZ.out.aEnd.mono ?_
      rintro e wu ⟨rfl, rfl⟩
      go_wp2_with fail
      refine HZ.out.aBegin.mono ?_
      rintro e wu ⟨rfl, rfl⟩
      go_wp2_with fail
      go_ret
      exact ⟨ret_bool (by simp), HZ.out.owns⟩

abbrev LAIDS : List (String × DataW Unit) := [("math/bits.deBruijn32tab", Rows.laid_math_bits_deBruijn32tab), ("math/bits.deBruijn64tab", Rows.laid_math_bits_deBruijn64tab), ("internal/strconv.uint64pow10", Rows.laid_internal_strconv_uint64pow10), ("unicode/utf8.acceptRanges", Rows.laid_unicode_utf8_acceptRanges), ("strconv.ErrRange", Rows.laid_strconv_ErrRange), ("strconv.ErrSyntax", Rows.laid_strconv_ErrSyntax), ("unicode/utf8.first", Rows.laid_unicode_utf8_first)]
theorem own : ownKnob Tryz.prog.godebug = none := by kernel_rfl
theorem laidOut : laidOutB Tryz.prog = true := by kernel_rfl
set_option maxRecDepth 100000 in
set_option linter.unusedVariables false in
theorem lifted (os : Os) (started : os.Started) (H : Type) (enc : TypeId × Value → H) :
    ReturnsInHanded {} Tryz.checked os 5 .any (fun w args => (Rows.segRowsSpec.pre enc Tryz.prog Tryz.f5 Rows.segRowsRow.domain false w args ∧ laidMetH Tryz.prog LAIDS w) ∧ sizedMet enc Tryz.prog Tryz.f5 (OpenSpec.ofChange Rows.segRowsSpec) false w args) (Rows.segRowsSpec.post enc Tryz.prog Tryz.f5 false true false false) := by
  refine handed_and_shaped (C := Tryz.checked) (X := fun w _ => laidMetH Tryz.prog LAIDS w) (fun _ _ _ hh h => h.of_heap hh) own started (by kernel_rfl) Tryz.func5
    (ChangeSpec.witness_shaped (enc := enc) (C := Tryz.checked) (os := os) (X := fun w _ => laidMetH Tryz.prog LAIDS w) false (World.laidAll Tryz.prog os LAIDS) #[.slice none 0 0, .slice none 0 0] 8 (World.laidAll_os _ _ _)
      (World.shaped_of_ZipB (by kernel_rfl) (by kernel_rfl)) (by kernel_rfl) (by kernel_rfl) (by kernel_rfl)
      (by rw [MakeChecks.laidMetH_plain _ _ _ (by kernel_rfl)]; exact laidMet_laidAll _ (by kernel_rfl) (by kernel_rfl))) ?_
  intro W base args ds gs before hval0 hW hcnd hsz0 hX hshape _
  have hsz : (DataW.weightsEach Tryz.prog (Tryz.f5.params.toList ++ []) (ds ++ gs)).all (· ≤ reachBytes) = true := hsz0
  clear hsz0
  have hval : ∀ (j : Nat) t v, Tryz.f5.params[j]? = some t → args[j]? = some v → Value.okWide Tryz.prog W .any base t v := hval0
  have hW' := hW
  obtain ⟨p, q, hA0, hV, rfl, hfz, hnd⟩ := hW
  have hA : DataW.TrodAll enc Tryz.prog W 0 (fun _ => true) true Tryz.f5.params.toList args.toList ds p := hA0
  rw [Tryz.params5] at hA hval hsz
  obtain ⟨v0, vs0, d0, ds0, p0, q0, hargs, rfl, rfl, h0, r0'⟩ := trodAll_cons hA
  obtain ⟨v1, vs1, d1, ds1, p1, q1, rfl, rfl, rfl, h1, r1'⟩ := trodAll_cons r0'
  obtain ⟨rfl, rfl, rfl⟩ := trodAll_nil r1'
  obtain rfl : args = #[v0, v1] := by cases args; simp_all
  obtain ⟨rfl, rfl⟩ := trodVars_none hV
  clear hA0 hval0
  have wt0 := fun n hn => (by simpa using List.all_eq_true.1 hsz n (DataW.weights_mem_each (j := 0) rfl rfl n hn) : n ≤ reachBytes)
  have wt1 := fun n hn => (by simpa using List.all_eq_true.1 hsz n (DataW.weights_mem_each (j := 1) rfl rfl n hn) : n ≤ reachBytes)
  have hlt : ∀ x ∈ p0 ++ (p1 ++ []), x.block < W.heap.size := fun x hx => by have := hW'.lt x (by simpa using hx); simpa using this
  have hL : laidMet Tryz.prog LAIDS W := by
    have h : laidMetH Tryz.prog LAIDS W := hX
    rw [MakeChecks.laidMetH_plain _ _ _ (by kernel_rfl)] at h
    exact h
  have htab : Lib.TabIs Tryz.prog W "internal/strconv.uint64pow10" .u64 Lib.pow10Tab :=
    Lib.tabIs_of_head (g := 2) (by kernel_rfl) (by kernel_rfl) Tryz.underlying173 Tryz.underlying128 (by kernel_rfl) (by kernel_rfl) (show laidMet Tryz.prog (("internal/strconv.uint64pow10", Lib.tabData .u64 Lib.pow10Tab) :: _) W from hL.tail.tail)
  obtain ⟨l0, r0⟩ := slice_arg Tryz.underlying53 (hval 0 53 v0 rfl rfl) ((opens_slice (c := 4) Tryz.underlying53 (by kernel_rfl) (by decide) (opens_op5)).arg h0)
  obtain ⟨l1, r1⟩ := slice_arg Tryz.underlying53 (hval 1 53 v1 rfl rfl) ((opens_slice (c := 4) Tryz.underlying53 (by kernel_rfl) (by decide) (opens_op5)).arg h1)
  refine (walk W htab v0 l0 r0 v1 l1 r1).mono fun e W' ⟨he, hg⟩ => ?_
  subst he
  refine ⟨_, rfl, _, _, _, [] ++ [], p0 ++ (p1 ++ []), [], hW', ?_, ?_, ?_, hg.frame _, fun h => by cases h⟩
  · exact trodAll_mk1 (shut_bool Tryz.underlying4 true)
  · exact trodAll_cons_mk (Below.trod laidOut (by kernel_rfl) (of_decide_eq_true (by kernel_rfl)) h0 hg (fun x hx => hlt x (by simp [hx]))) (trodAll_cons_mk (Below.trod laidOut (by kernel_rfl) (of_decide_eq_true (by kernel_rfl)) h1 hg (fun x hx => hlt x (by simp [hx]))) (trodAll_mk0))
  · exact rfl

theorem over : Rows.segRowsRow.holds Tryz.pinned (OpenSpec.ofChange Rows.segRowsSpec) :=
  OpenClaim.holds_of_wide 5 Tryz.f5 rfl rfl rfl rfl rfl rfl rfl ⟨rfl, rfl, rfl, rfl, rfl⟩ rfl rfl rfl rfl rfl (by kernel_rfl) Tryz.func5 (by kernel_rfl)
    (of_decide_eq_true (by kernel_rfl)) (by unfold Func.isWrapper; first | (rw [if_pos (by decide +kernel)]; kernel_rfl) | (rw [if_neg (by decide +kernel)]; exact ⟨rfl, rfl⟩))
    (fun os started H enc _ => lifted os started H enc)

theorem proved : Rows.SegRowsCardSaid :=
  Claim7.holds_tied_plain_at .later [] [.data, .data, .data, .data, .sentinel, .sentinel, .pinned] true _ true over (fun _ h => by cases h) (by kernel_rfl) (fun _ h => by cases h) segRows_row_tie rfl ⟨rfl, rfl⟩ (by kernel_rfl) rfl
    (fun f fn hf hfn => by
      obtain rfl : f = 5 := Option.some.inj ((show Tryz.prog.funcNamed "reveille/reveillelaw05.SegRows" = some 5 by kernel_rfl).symm.trans hf) |>.symm
      obtain rfl : fn = Tryz.f5 := (Option.some.inj (Tryz.func5.symm.trans hfn)).symm
      exact ⟨by kernel_rfl, fun j t ht => by
        rw [Tryz.params5] at ht
        have hm : t ∈ [53, 53] := by simpa using Array.mem_of_getElem? ht
        have hall : ([53, 53].all fun u => !Tryz.prog.wantsStandIn u) = true := by kernel_rfl
        exact (show Tryz.prog.wantsStandIn t = false by simpa using List.all_eq_true.1 hall t hm)⟩)
    (by kernel_rfl)
#print axioms proved
end Go.Proofs.YtafdfmdcnniccaaGreatDoor.srows
