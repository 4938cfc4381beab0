/- strings.Builder: copyCheck, WriteString. -/
import Derived.Test.YtofffmnkoelifaaRows
import Derived.WalkKit
import Derived.ProofKit
import Derived.OpenShut
import Derived.Handy
import Derived.Deep.LoopGhost
import Derived.Lib.Hide
import Derived.Lib.Strings
import Derived.SizedLaws
import Derived.Deep.Slices
import Derived.Shelf.SlIter.Nil
import Derived.Ground.GgzProg
import Derived.Shelf.SortM.Plain
import Derived.Shelf.SortM.SortNone
import Derived.Ground.SlgmProg
import Derived.Test.YtofffmnkoelifaaProg
import Derived.Shelf.Strings.Builder1
import Derived.Shelf.Strings.Builder2
import Derived.Shelf.Small.Bits
import Derived.Shelf.Small.Wraps
import Derived.Shelf.Strings.BuilderF
import Derived.Shelf.Strings.BuilderK
import Derived.Shelf.Strings.Builder2Cap
import Derived.Shelf.Strconv.Itoa0
import Derived.Shelf.Sort.Plain
import Derived.Shelf.GgClosure.StringsIndexFunc
import Derived.Ground.GgwProg
import Derived.Shelf.GgClosure.StringsIndexFuncTop
import Derived.Shelf.GgClosure.StringsRunes
import Derived.Shelf.Strings.Prefix
import Derived.Shelf.Bits.Mul64
import Derived.Shelf.Strings.Repeat
import Derived.Shelf.Strings.BuilderCap
import Derived.Shelf.Slices.Equal
import Derived.Ground.Names2Prog
import Derived.Shelf.Slices.Clone
import Derived.Shelf.Slices.CompactS
import Derived.Shelf.Slices.SearchI
import Derived.Shelf.Slices.Cells
import Derived.Shelf.Slices.In.SortNone
import Derived.Shelf.Slices.Empties2
import Derived.Ground.SlgnProg
import Derived.Shelf.SlicesE.Equal
import Derived.Shelf.SlicesE.Compact
import Derived.Ground.SlgfProg
import Derived.Shelf.SlicesE.IndexFunc
import Derived.Shelf.SlicesE.DeleteFunc
import Derived.RangeFuncBox
import Derived.RangeFuncLeaves
import Derived.Shelf.Abstract
import Derived.OwnWalkIn
import Derived.TacticsInMore
import Derived.LoopNIn
import Derived.LoopIn
import Derived.Maps.AppendAt
import Derived.Lib.SlicesCompact
import Derived.Deep.QuietTactic
import Derived.BigQuiet
import Derived.Laws.ResultCell
import Derived.Laws.Rows
import Derived.Lib.ConvBytes
import Derived.Lib.AppendZeros
import Derived.Lib.AppendZerosOnto
import Derived.Lib.LazyBuf
import Derived.Laws.MakeOwn
import Derived.Lib.Builder
import Derived.Lib.AppendStr
import Derived.Test.YtofffmnkoelifaaPk10
namespace Go.Proofs.Ytofffmnkoelifaa.oc
open Go.ChangeShapes Go.WideShapes Go.ChangeAt Go.RowKit

abbrev BT : TypeId := 110
theorem sizeB : (Try.prog.info? BT).map (·.size) = some 2 := by kernel_rfl
theorem liesB : liesAt Try.prog Try.prog.depth BT (2 / Try.prog.cellsOf BT) 0 BT 1 = true := by kernel_rfl
theorem infoU8 : (Try.prog.info? 5).map (fun i => (i.zero, i.size, i.bytes)) = some (some (.int .u8 0), 1, 1) := by kernel_rfl
set_option maxHeartbeats 1000000 in
set_option maxRecDepth 100000 in
theorem copyCheck_any (B b : Nat) (bs : List Value) (w : World) (h : Lib.IsBuilder BT 5 B b bs w) :
    Calls Try.prog 110 #[.pointer (some ⟨b, 0, none⟩)] w fun e w' => e = .returned (.tuple #[]) ∧ Lib.BuilderAt BT 5 B b (.pointer (some ⟨b, 0, none⟩)) bs w' ∧ Below B w w' := by
  obtain ⟨j, hj, hjs⟩ := Option.map_eq_some_iff.1 sizeB
  rcases h with h | h
  · have H := box h
    have h0 := h.cell0
    have hfz := h.frozen0
    have hsh := box h.shape
    clear h
    go_enter Try.func110, Try.ntmps110
    go_wp2
    rw [Lib.run_to_unsafe w ⟨b, 0, none⟩ Try.underlying108 Try.underlying159 hj (by rw [hjs]; decide) hsh.out (Nat.zero_lt_succ 1)]
    simp only [Result.andThen]
    rw [Oper.upon_value]
    go_wp2
    rw [run_callFunc_extern Try.func128 (by kernel_rfl) (by kernel_rfl) (by kernel_rfl) (e := Extern.AbiNoEscape.same) (by kernel_rfl)]
    rw [Lib.run_noEscape]
    simp only [Result.andThen]
    rw [Oper.upon_value]
    go_wp2
    rw [Lib.run_from_unsafe w ⟨b, 0, none⟩ Try.underlying159 Try.underlying108 hj hsh.out liesB]
    simp only [Result.andThen]
    rw [Oper.upon_value]
    go_wp2
    go_end0
    exact ⟨rfl, H.out.used _, (Below.refl B w).setCell (p := ⟨b, 0, none⟩) H.out.1 _⟩
  · have H := box h
    have h0 := h.cell0
    clear h
    go_enter Try.func110, Try.ntmps110
    go_wp2
    rw [Lib.run_neq_ptr_same w _ Try.underlying108 hj]
    go_wp2
    go_end0
    exact ⟨rfl, H.out, Below.refl B _⟩

set_option maxHeartbeats 2000000 in
set_option maxRecDepth 100000 in
theorem WriteString_any (B b : Nat) (bs : List Value) (s : ByteArray) (w : World) (h : Lib.IsBuilder BT 5 B b bs w) (hlen : bs.length + s.size ≤ 140737488355328) (hBw : B ≤ w.heap.size) :
    Calls Try.prog 79 #[.pointer (some ⟨b, 0, none⟩), .string s] w fun e w' => e = .returned (.tuple #[.int .i64 s.size, .nilIface]) ∧ Lib.BuilderAt BT 5 B b (.pointer (some ⟨b, 0, none⟩)) (bs ++ Lib.strCells s) w' ∧ Below B w w' := by
  obtain ⟨i0, hi, hz0, hz1, hz2⟩ := info_parts infoU8
  have hcc := box (copyCheck_any B b bs w h)
  clear h
  go_enter Try.func79, Try.ntmps79
  go_wp2_with fail
  refine hcc.out.mono ?_
  rintro e w1 ⟨rfl, h1, hb1⟩
  obtain ⟨hB, v, hbk, hown, hne⟩ := h1
  have c0 : w1.cell? ⟨b, 0, none⟩ = some (.pointer (some ⟨b, 0, none⟩)) := cell_of hbk 0
  have c1 : w1.cell? ⟨b, 1, none⟩ = some v := cell_of hbk 1
  go_wp2_with (at_builtin; refine Lib.wpList_append_own_string _ rfl _ _ 55 9 rfl B 5 i0 Try.underlying55 Try.underlying9 hi hz0 hz1 hz2 _ _ _ rfl hown s rfl ?c3 ?c4 ?c5 ?_)
  case c3 => unfold maxLen; omega
  case c4 => omega
  case c5 => have := hb1.size; omega
  intro v' w2 hown' hgrow _
  have hlt : b < w1.heap.size := heap_lt hbk
  have hb2 : w2.heap[b]? = some (.cells #[.pointer (some ⟨b, 0, none⟩), v] BT (0, 0)) := by
    rw [hgrow.block b hlt (fun e => hne e.symm)]
    exact hbk
  have d0 : w2.cell? ⟨b, 0, none⟩ = some (.pointer (some ⟨b, 0, none⟩)) := cell_of hb2 0
  have d1 : w2.cell? ⟨b, 1, none⟩ = some v := cell_of hb2 1
  have f1 : w2.frozen? ⟨b, 1, none⟩ = false := free_of hb2 1
  obtain ⟨ao, n', cap, rfl⟩ : ∃ ao n' cap, v' = .slice ao n' cap := by
    rcases hown'.2 with ⟨hv, _⟩ | ⟨g, cap, cur, hv, _⟩
    · exact ⟨_, _, _, hv⟩
    · exact ⟨_, _, _, hv⟩
  go_wp2
  go_ret2
  refine ⟨rfl, ?_, ?_⟩
  · exact Lib.BuilderAt.put (T := BT) (e := 5) hB hb2 (bs' := bs ++ Lib.strCells s) (by simpa [Lib.strCells_length] using hown') (by decide)
  · exact (hb1.grown hgrow (by have := hb1.size; omega) (fun k hk => (hown.lt k hk).1)).setCell (p := ⟨b, 1, none⟩) hB _
end Go.Proofs.Ytofffmnkoelifaa.oc

/- Layer 1: numbers' bytes. -/
namespace Go.Proofs.Ytofffmnkoelifaa.oc
open Go.ChangeShapes Go.WideShapes Go.ChangeAt Go.RowKit

def fitsN (n : Nat) (x : Int) : Bool := decide (0 ≤ x) && decide (x < 256 ^ n)
def lowN (n : Nat) (l : List Int) : List UInt8 := l.flatMap fun x => low n x.toNat
/-- Numbers' bytes, and the error's number. -/
def numB (n : Int) (l : List Int) : ByteArray × Int :=
  if n < 1 ∨ 7 < n then (⟨#[]⟩, 1) else if l.all (fitsN n.toNat) then (⟨(lowN n.toNat l).toArray⟩, 0) else (⟨#[]⟩, 2)
theorem fits_div (m : Nat) (h1 : 1 ≤ m) (h7 : m ≤ 7) (x : Int) : fitsN m x = (decide (0 ≤ x) && !(x / 2 ^ (8 * m) != 0)) := by
  have hc : m = 1 ∨ m = 2 ∨ m = 3 ∨ m = 4 ∨ m = 5 ∨ m = 6 ∨ m = 7 := by omega
  unfold fitsN
  rw [Bool.eq_iff_iff]
  rcases hc with rfl | rfl | rfl | rfl | rfl | rfl | rfl <;> simp <;> omega
theorem low_size (n x : Nat) : (⟨(low n x).toArray⟩ : ByteArray).size = n := by show (low n x).toArray.size = n; simp [low_length]
theorem lowN_length (n : Nat) (l : List Int) : (lowN n l).length = l.length * n := by
  unfold lowN
  induction l with
  | nil => simp
  | cons x l ih => rw [List.flatMap_cons, List.length_append, low_length, ih, List.length_cons, Nat.succ_mul, Nat.add_comm]
theorem lowN_snoc (n : Nat) (l : List Int) (k : Nat) (hk : k < l.length) : lowN n (l.take (k + 1)) = lowN n (l.take k) ++ low n l[k].toNat := by
  unfold lowN; rw [List.take_succ_eq_append_getElem hk, List.flatMap_append]; simp
theorem _root_.Go.Lib.BuilderAt.calm' {T e : TypeId} {B b : Nat} {p : Value} {bs : List Value} {w w' : World} (h : Lib.BuilderAt T e B b p bs w) (hc : Calm w w') : Lib.BuilderAt T e B b p bs w' := by
  obtain ⟨hB, v, hb, hrow, hne⟩ := h
  refine ⟨hB, v, heap_calm hc hb, ?_, hne⟩
  obtain ⟨h1, h2⟩ := hrow
  refine ⟨h1, ?_⟩
  rcases h2 with h2 | ⟨g, cap, cur, e1, r1, r2, r3⟩
  · exact .inl h2
  · exact .inr ⟨g, cap, cur, e1, r1, heap_calm hc r2, r3⟩
theorem _root_.Go.Lib.IsBuilder.calm' {T e : TypeId} {B b : Nat} {bs : List Value} {w w' : World} (h : Lib.IsBuilder T e B b bs w) (hc : Calm w w') : Lib.IsBuilder T e B b bs w' := h.imp (·.calm' hc) (·.calm' hc)
/-- Numbers lie under a slice's address. -/
def IntsAt (w : World) (a : Option Addr) (l : List Int) : Prop := ∀ k (hk : k < l.length), ∃ b off, a = some ⟨b, off, none⟩ ∧ b < w.heap.size ∧ w.cell? ⟨b, off + k, none⟩ = some (.int .i64 l[k])
theorem IntsAt.below {w w' : World} {a : Option Addr} {l : List Int} {B : Nat} (h : IntsAt w a l) (hB : w.heap.size = B) (hc : Below B w w') : IntsAt w' a l := fun k hk => by
  obtain ⟨b, off, e, hb, hcell⟩ := h k hk
  exact ⟨b, off, e, Nat.lt_of_lt_of_le hb (by have := hc.size; omega), by rw [hc.cell (p := ⟨b, off + k, none⟩) (by show b < B; omega)]; exact hcell⟩

set_option maxRecDepth 100000 in
set_option maxHeartbeats 4000000 in
theorem Num_any (n : Int) (a : Option Addr) (cap : Nat) (l : List Int) (w : World) (h : IntsAt w a l) (hl : l.length ≤ 1000000) (hi : ∀ x ∈ l, -9223372036854775808 ≤ x ∧ x ≤ 9223372036854775807) :
    Calls Try.prog 52 #[.int .i64 n, .slice a l.length cap] w fun e w' => e = .returned (.tuple #[.string (numB n l).1, .int .i64 (numB n l).2]) ∧ Calm w w' := by
  by_cases hn : n < 1 ∨ 7 < n
  · have hr := box (show numB n l = (⟨#[]⟩, 1) by unfold numB; rw [if_pos hn])
    rw [hr.out]
    have hn' : n < 1 ∨ (1 ≤ n ∧ 7 < n) := by omega
    clear hn
    rcases hn' with h1 | ⟨h1, h2⟩
    all_goals
      go_enter Try.func52, Try.ntmps52
      go_wp2_with fail
      go_ret2
      exact ⟨rfl, .refl _⟩
  · obtain ⟨m, rfl⟩ : ∃ m : Nat, n = m := ⟨n.toNat, by omega⟩
    have hm1 : 1 ≤ m := by omega
    have hm7 : m ≤ 7 := by omega
    have hr := box (show numB m l = if l.all (fitsN m) then (⟨(lowN m l).toArray⟩, 0) else (⟨#[]⟩, 2) by unfold numB; rw [if_neg hn]; rfl)
    have H := box h
    have Hi := box hi
    clear h hi hn
    go_enter Try.func52, Try.ntmps52
    go_wp2_with fail
    go_loopw [17] (fun i wr => ∃ k : Nat, k ≤ l.length ∧ i = .int .i64 k ∧ (l.take k).all (fitsN m) = true ∧ Lib.IsBuilder BT 5 w.heap.size w.heap.size (Lib.byteCells (lowN m (l.take k))) wr ∧ Calm w wr) (fun i _ => l.length - (intOf i).toNat)
    case atStart =>
      exact ⟨0, Nat.zero_le _, rfl, rfl, .inl ⟨Nat.le_refl _, .slice none 0 0, heap_new w _, World.ownsRow_nil _ _ _ _, by simp [Value.ownBlock]⟩, (Calm.refl w).alloc _⟩
    case round =>
      obtain ⟨k, hk, rfl, hall, hB, hC⟩ := hrel
      have Hall := box hall
      have HB := box hB
      have HC := box hC
      clear hall hB hC
      by_cases hlt : k < l.length
      · obtain ⟨b, off, rfl, hb, hcell⟩ := H.out.below rfl HC.out k hlt
        obtain ⟨x, hx⟩ : ∃ x, l[k] = x := ⟨_, rfl⟩
        obtain ⟨hx1, hx2⟩ := Hi.out l[k] (List.getElem_mem hlt)
        have hsn := box (lowN_snoc m l k hlt)
        have has := box (show (l.take (k + 1)).all (fitsN m) = ((l.take k).all (fitsN m) && fitsN m l[k]) by rw [List.take_succ_eq_append_getElem hlt, List.all_append]; simp)
        rw [hx] at hcell hx1 hx2 hsn has
        have q8 : IntKind.i64.wrap (8 * (m : Int)) = 8 * m := IntWalk.i64_in _ (by omega)
        have hfd := box (fits_div m hm1 hm7 x)
        have hbad := box (fun (hf : fitsN m x = false) => (show numB m l = (⟨#[]⟩, 2) by
          rw [hr.out, if_neg]
          rw [List.all_eq_true]
          intro hh
          have := hh l[k] (List.getElem_mem hlt)
          rw [hx, hf] at this
          cases this))
        have hlen := box (lowN_length m (l.take k))
        clear hx
        go_wp2_with fail
        all_goals first
          | (have hh : x < 0 ∨ (x / 2 ^ (8 * m) != 0) = true := by first | assumption | exact .inl (by assumption)
             have hb2 := hbad.out (by rw [hfd.out]; rcases hh with h | h; rw [decide_eq_false (by omega)]; rfl; rw [h]; simp)
             go_ret2
             exact ⟨ret_tup2 (by rw [hb2]; rfl) (by rw [hb2]; rfl), HC.out⟩)
          | skip
        have hok := box (show fitsN m x = true by
          have hh : 0 ≤ x ∧ (x / 2 ^ (8 * m) != 0) = false := by assumption
          rw [hfd.out, hh.2, decide_eq_true hh.1]; rfl)
        have hx0 : 0 ≤ x := by have := hok.out; unfold fitsN at this; simp at this; exact this.1
        obtain ⟨y, rfl⟩ : ∃ y : Nat, x = y := ⟨x.toNat, by omega⟩
        refine (put_any m y _ (by omega) (by omega)).mono ?_
        rintro e w2 ⟨rfl, hc2⟩
        have HB2 := box (HB.out.calm' hc2)
        have HC2 := box (HC.out.trans hc2)
        clear hc2
        go_wp2_with fail
        refine (WriteString_any w.heap.size w.heap.size _ ⟨(low m y).toArray⟩ _ HB2.out (by rw [Lib.byteCells_length, hlen.out, low_size, List.length_take]; have : min k l.length * m ≤ 1000000 * 7 := Nat.mul_le_mul (by omega) (by omega); omega) (by exact HC2.out.size)).mono ?_
        rintro e w3 ⟨rfl, hb3, hc3⟩
        have HB3 := box hb3
        have HC3 := box (Below.trans HC2.out hc3)
        clear hb3 hc3
        go_wp2_with fail
        go_roundw
        case rel =>
          refine ⟨k + 1, by omega, by go_num, by rw [has.out, Hall.out, hok.out]; rfl, ?_, HC3.out⟩
          rw [hsn.out, Lib.byteCells_append]
          exact .inr HB3.out
        case measure => simp [intOf]; omega
      · obtain rfl : k = l.length := by omega
        have hr := box (show numB m l = (⟨(lowN m l).toArray⟩, 0) by
          have := Hall.out
          rw [List.take_length] at this
          rw [hr.out, if_pos this])
        have HB := box (show Lib.IsBuilder BT 5 w.heap.size w.heap.size (Lib.byteCells (lowN m l)) wr by have := HB.out; rw [List.take_length] at this; exact this)
        go_wp2_with fail
        refine (Try.Builder_String_any w.heap.size w.heap.size _ wr HB.out (by exact HC.out.size)).mono ?_
        rintro e w2 ⟨rfl, hc2⟩
        have HC2 := box (Below.trans HC.out hc2)
        clear hc2
        go_wp2_with fail
        go_ret2
        exact ⟨ret_tup2 (by rw [hr.out]; rfl) (by rw [hr.out]; rfl), HC2.out⟩
end Go.Proofs.Ytofffmnkoelifaa.oc

/- Plain: texts' bytes and what a reader makes of them. -/
namespace Go.Proofs.Ytofffmnkoelifaa.oc
open Go.RowKit

/-- A text's bytes. -/
def textL (s : ByteArray) : List UInt8 := low 2 s.size ++ s.data.toList
def textsL (l : List ByteArray) : List UInt8 := l.flatMap textL
abbrev shortB (s : ByteArray) : Bool := decide (s.size ≤ 65535)
/-- Texts' bytes, and the error's number. -/
def textsB (l : List ByteArray) : ByteArray × Int := if l.all shortB then (⟨(textsL l).toArray⟩, 0) else (⟨#[]⟩, 6)
def listB (l : List ByteArray) : ByteArray × Int := if 255 < l.length then (⟨#[]⟩, 6) else if l.all shortB then (⟨(low 1 l.length ++ textsL l).toArray⟩, 0) else (⟨#[]⟩, 6)
theorem textL_length (s : ByteArray) : (textL s).length = 2 + s.size := by unfold textL; rw [List.length_append, low_length, size_toList]
theorem textsL_snoc (l : List ByteArray) (k : Nat) (hk : k < l.length) : textsL (l.take (k + 1)) = textsL (l.take k) ++ textL l[k] := by
  unfold textsL; rw [List.take_succ_eq_append_getElem hk, List.flatMap_append]; simp
theorem textsL_length : ∀ l : List ByteArray, l.all shortB = true → (textsL l).length ≤ l.length * 65537
  | [], _ => by simp [textsL]
  | s :: l, h => by
    rw [List.all_cons, Bool.and_eq_true] at h
    have h1 : s.size ≤ 65535 := of_decide_eq_true h.1
    have h2 := textsL_length l h.2
    have h3 : textsL (s :: l) = textL s ++ textsL l := by unfold textsL; rw [List.flatMap_cons]
    rw [h3, List.length_append, textL_length, List.length_cons]
    omega
theorem take_left (R : Rdr) (n : Int) : (R.take n).2.s.size ≤ R.s.size := by
  unfold Rdr.take
  split; exact Nat.le_refl _
  split; exact Nat.le_refl _
  split; exact Nat.le_refl _
  simp only [ByteArray.size_extract]; omega
theorem num_left (R : Rdr) (n : Int) : (R.num n).2.s.size ≤ R.s.size := by
  unfold Rdr.num
  split; exact Nat.le_refl _
  split; exact Nat.le_refl _
  exact take_left R n
theorem num_small (R : Rdr) (n : Int) : 0 ≤ (R.num n).1 ∧ (R.num n).1 < 72057594037927936 := by
  unfold Rdr.num
  split; exact ⟨Int.le_refl _, by simp⟩
  split; exact ⟨Int.le_refl _, by simp⟩
  rename_i _ hn
  have h1 := take_size R n (by omega)
  have h2 := getN_take (R.take n).1.data.toList (R.take n).1.data.toList.length (Nat.le_refl _)
  rw [List.take_length, size_toList] at h2
  have h3 : 256 ^ (R.take n).1.size ≤ 256 ^ 7 := Nat.pow_le_pow_right (by decide) h1
  have h4 : (256 : Nat) ^ 7 = 72057594037927936 := by decide
  simp only
  omega
def Rdr.end_ (R : Rdr) : Int := if R.e ≠ 0 then R.e else if R.s.size = 0 then 0 else 4
/-- Reads a text. -/
def Rdr.text (R : Rdr) (most : Int) : ByteArray × Rdr :=
  if R.e ≠ 0 then (⟨#[]⟩, R) else
  let a := R.num 2
  let t := (if a.2.e = 0 ∧ most < a.1 then (⟨a.2.s, 6⟩ : Rdr) else a.2).take a.1
  if t.2.e ≠ 0 then (t.1, ⟨R.s, t.2.e⟩) else t
/-- Reads texts. -/
def Rdr.texts (R : Rdr) (most : Int) : Nat → List ByteArray × Rdr
  | 0 => ([], R)
  | k + 1 => ((R.texts most k).1 ++ [((R.texts most k).2.text most).1], ((R.texts most k).2.text most).2)
/-- Reads a list. -/
def Rdr.list (R : Rdr) (many most : Int) : List ByteArray × Rdr :=
  if R.e ≠ 0 then ([], R) else
  let a := R.num 1
  let t := (if a.2.e = 0 ∧ many < a.1 then (⟨a.2.s, 6⟩ : Rdr) else a.2).texts most a.1.toNat
  if t.2.e ≠ 0 then ([], ⟨R.s, t.2.e⟩) else t
end Go.Proofs.Ytofffmnkoelifaa.oc

/- Plain: a record's bytes, and what is read of bytes. -/
namespace Go.Proofs.Ytofffmnkoelifaa.oc
open Go.RowKit

/-! What was read without an error is what lay there. -/
theorem getN_app (a b : List UInt8) : getN (a ++ b) = getN a * 256 ^ b.length + getN b := by
  induction b generalizing a with
  | nil => simp [getN]
  | cons c b ih =>
    rw [show a ++ c :: b = (a ++ [c]) ++ b by simp, ih, getN_snoc, show c :: b = [c] ++ b from rfl, ih [c]]
    have : getN [c] = c.toNat := by simp [getN]
    rw [this, List.length_append, List.length_singleton, Nat.add_comm 1, Nat.pow_succ, Nat.add_mul, Nat.mul_comm 256 (getN a), Nat.mul_assoc, Nat.mul_comm 256]
    omega
theorem low_cut : ∀ (m n : Nat), m ≤ n → ∀ x, low m x = low m (x % 256 ^ n) := fun m => by
  induction m with
  | zero => intro n _ x; rfl
  | succ m ih =>
    intro n hm x
    unfold low
    rw [ih n (by omega) x]
    congr 1
    have : x % 256 ^ n / 256 ^ m % 256 = x / 256 ^ m % 256 := by
      obtain ⟨d, rfl⟩ : ∃ d, n = m + 1 + d := ⟨n - (m + 1), by omega⟩
      have e : 256 ^ (m + 1 + d) = 256 ^ m * (256 * 256 ^ d) := by rw [Nat.pow_add, Nat.pow_succ, Nat.mul_assoc]
      rw [e, Nat.mod_mul_right_div_self, Nat.mod_mul_right_mod]
    apply UInt8.toNat_inj.1
    simp [this]
theorem getN_lt (l : List UInt8) : getN l < 256 ^ l.length := by
  have := getN_take l l.length (Nat.le_refl _)
  rwa [List.take_length] at this
theorem low_getN : ∀ (l : List UInt8), low l.length (getN l) = l
  | [] => rfl
  | b :: l => by
    have e : getN (b :: l) = b.toNat * 256 ^ l.length + getN l := by
      rw [show b :: l = [b] ++ l from rfl, getN_app, show getN [b] = b.toNat by simp [getN]]
    have hl := getN_lt l
    have hp : 0 < 256 ^ l.length := Nat.pow_pos (by decide)
    rw [List.length_cons, low, e]
    rw [low_cut l.length l.length (Nat.le_refl _) (b.toNat * 256 ^ l.length + getN l), Nat.mul_comm, Nat.mul_add_mod, Nat.mod_eq_of_lt hl, low_getN l, Nat.mul_add_div hp, Nat.div_eq_of_lt hl, Nat.add_zero]
    simp
/-- A reader that goes on without an error over these bytes. -/
structure Over (R R' : Rdr) (l : List UInt8) : Prop where
  ok : R.e = 0
  ok' : R'.e = 0
  bytes : R.s.data.toList = l ++ R'.s.data.toList
theorem Over.trans {R R' R'' : Rdr} {l m : List UInt8} (h : Over R R' l) (g : Over R' R'' m) : Over R R'' (l ++ m) :=
  ⟨h.ok, g.ok', by rw [h.bytes, g.bytes, List.append_assoc]⟩
theorem take_over {R : Rdr} {n : Int} (h : (R.take n).2.e = 0) : Over R (R.take n).2 (R.take n).1.data.toList ∧ ((R.take n).1.size : Int) = n := by
  unfold Rdr.take at h ⊢
  by_cases h1 : R.e ≠ 0
  · rw [if_pos h1] at h; exact absurd h h1
  rw [if_neg h1] at h ⊢
  by_cases h2 : n < 0
  · rw [if_pos h2] at h; cases h
  rw [if_neg h2] at h ⊢
  by_cases h3 : (R.s.size : Int) < n
  · rw [if_pos h3] at h; cases h
  rw [if_neg h3]
  refine ⟨⟨by simpa using h1, rfl, ?_⟩, ?_⟩
  · simp only [ByteArray.data_extract, Array.toList_extract, List.extract_eq_take_drop, List.drop_zero, Nat.sub_zero]
    rw [List.take_of_length_le (l := List.drop _ _) (by rw [List.length_drop, size_toList]; exact Nat.le_refl _), List.take_append_drop]
  · simp only [ByteArray.size_extract]; omega
theorem num_over {R : Rdr} {n : Nat} (h1 : 1 ≤ n) (h7 : n ≤ 7) (h : (R.num n).2.e = 0) : Over R (R.num n).2 (low n (R.num n).1.toNat) := by
  unfold Rdr.num at h ⊢
  by_cases h0 : R.e ≠ 0
  · rw [if_pos h0] at h; exact absurd h h0
  rw [if_neg h0] at h ⊢
  rw [if_neg (by omega)] at h ⊢
  obtain ⟨ho, hn⟩ := take_over h
  have e : low n (getN (R.take n).1.data.toList) = (R.take n).1.data.toList := by
    have hl : (R.take n).1.data.toList.length = n := by rw [size_toList]; omega
    have := low_getN (R.take n).1.data.toList
    rwa [hl] at this
  simp only [Int.toNat_natCast]
  rw [e]
  exact ho
theorem text_over {R : Rdr} {most : Int} (h : (R.text most).2.e = 0) : Over R (R.text most).2 (textL (R.text most).1) ∧ ((R.text most).1.size : Int) ≤ most := by
  unfold Rdr.text at h ⊢
  by_cases h0 : R.e ≠ 0
  · rw [if_pos h0] at h; exact absurd h h0
  rw [if_neg h0] at h ⊢
  simp only at h ⊢
  by_cases ht : ((if (R.num 2).2.e = 0 ∧ most < (R.num 2).1 then (⟨(R.num 2).2.s, 6⟩ : Rdr) else (R.num 2).2).take (R.num 2).1).2.e ≠ 0
  · rw [if_pos ht] at h; exact absurd h ht
  rw [if_neg ht] at h ⊢
  by_cases hc : (R.num 2).2.e = 0 ∧ most < (R.num 2).1
  · rw [if_pos hc] at h
    have := (take_over h).1.ok
    cases this
  rw [if_neg hc] at h ⊢
  obtain ⟨ho, hn⟩ := take_over h
  have hm : (R.num 2).1 ≤ most := by
    have : ¬ most < (R.num 2).1 := fun hh => hc ⟨ho.ok, hh⟩
    omega
  have h2 := num_over (R := R) (n := 2) (by decide) (by decide) ho.ok
  refine ⟨?_, by omega⟩
  have := h2.trans ho
  unfold textL
  rwa [show (R.num ((2 : Nat) : Int)).1.toNat = ((R.num 2).2.take (R.num 2).1).1.size by
    show (R.num 2).1.toNat = _
    omega] at this
theorem texts_over {R : Rdr} {most : Int} : ∀ k : Nat, (R.texts most k).2.e = 0 → Over R (R.texts most k).2 (textsL (R.texts most k).1) ∧ (R.texts most k).1.length = k ∧ ∀ s ∈ (R.texts most k).1, (s.size : Int) ≤ most
  | 0, h => ⟨⟨h, h, rfl⟩, rfl, fun s hs => by cases hs⟩
  | k + 1, h => by
    simp only [Rdr.texts] at h ⊢
    obtain ⟨ho, hsz⟩ := text_over h
    obtain ⟨ho2, hl, hall⟩ := texts_over k ho.ok
    refine ⟨?_, by rw [List.length_append, hl]; rfl, fun s hs => ?_⟩
    · have := ho2.trans ho
      unfold textsL
      rw [List.flatMap_append]
      simpa [textsL] using this
    · rcases List.mem_append.1 hs with hs | hs
      · exact hall s hs
      · rw [List.mem_singleton.1 hs]; exact hsz
theorem list_over {R : Rdr} {many most : Int} (h : (R.list many most).2.e = 0) :
    Over R (R.list many most).2 (low 1 (R.list many most).1.length ++ textsL (R.list many most).1) ∧ ((R.list many most).1.length : Int) ≤ many ∧ ∀ s ∈ (R.list many most).1, (s.size : Int) ≤ most := by
  unfold Rdr.list at h ⊢
  by_cases h0 : R.e ≠ 0
  · rw [if_pos h0] at h; exact absurd h h0
  rw [if_neg h0] at h ⊢
  simp only at h ⊢
  by_cases ht : ((if (R.num 1).2.e = 0 ∧ many < (R.num 1).1 then (⟨(R.num 1).2.s, 6⟩ : Rdr) else (R.num 1).2).texts most (R.num 1).1.toNat).2.e ≠ 0
  · rw [if_pos ht] at h; exact absurd h ht
  rw [if_neg ht] at h ⊢
  by_cases hc : (R.num 1).2.e = 0 ∧ many < (R.num 1).1
  · rw [if_pos hc] at h
    have := (texts_over _ h).1.ok
    cases this
  rw [if_neg hc] at h ⊢
  obtain ⟨ho, hl, hall⟩ := texts_over _ h
  have hm : (R.num 1).1 ≤ many := by
    have : ¬ many < (R.num 1).1 := fun hh => hc ⟨ho.ok, hh⟩
    omega
  have h1 := num_over (R := R) (n := 1) (by decide) (by decide) ho.ok
  have hp := (num_small R 1).1
  refine ⟨?_, by rw [hl]; omega, hall⟩
  have := h1.trans ho
  rw [hl]
  exact this

/-! What was laid there is what is read. -/
theorem bytes_mk (b : ByteArray) : (⟨b.data.toList.toArray⟩ : ByteArray) = b := by apply ba_ext; simp
theorem take_back (a rest : List UInt8) : (⟨⟨(a ++ rest).toArray⟩, 0⟩ : Rdr).take a.length = (⟨a.toArray⟩, ⟨⟨rest.toArray⟩, 0⟩) := by
  have hsz : (⟨(a ++ rest).toArray⟩ : ByteArray).size = a.length + rest.length := by show (a ++ rest).toArray.size = _; simp
  unfold Rdr.take
  rw [if_neg (fun h => h rfl), if_neg (by omega), if_neg (by rw [hsz]; omega)]
  simp only [Int.toNat_natCast]
  rw [hsz]
  congr 1
  · apply ba_ext
    simp
  · congr 1
    apply ba_ext
    simp
theorem num_back (n x : Nat) (h1 : 1 ≤ n) (h7 : n ≤ 7) (hx : x < 256 ^ n) (rest : List UInt8) : (⟨⟨(low n x ++ rest).toArray⟩, 0⟩ : Rdr).num n = ((x : Int), ⟨⟨rest.toArray⟩, 0⟩) := by
  have ht := take_back (low n x) rest
  rw [low_length] at ht
  unfold Rdr.num
  rw [if_neg (fun h => h rfl), if_neg (by omega), ht]
  have : getN (low n x) = x := by
    have h := low_getN (low n x)
    rw [low_length] at h
    have hl := getN_lt (low n x)
    rw [low_length] at hl
    exact low_inj n _ _ hl hx h
  simp only [this]
where
  low_inj : ∀ (n x y : Nat), x < 256 ^ n → y < 256 ^ n → low n x = low n y → x = y
    | 0, x, y, hx, hy, _ => by simp at hx hy; omega
    | n + 1, x, y, hx, hy, h => by
      simp only [low, List.cons.injEq] at h
      obtain ⟨h1, h2⟩ := h
      have hp : 0 < 256 ^ n := Nat.pow_pos (by decide)
      have hdx : x / 256 ^ n < 256 := by rw [Nat.div_lt_iff_lt_mul hp]; rw [Nat.pow_succ, Nat.mul_comm] at hx; exact hx
      have hdy : y / 256 ^ n < 256 := by rw [Nat.div_lt_iff_lt_mul hp]; rw [Nat.pow_succ, Nat.mul_comm] at hy; exact hy
      have e1 : x / 256 ^ n = y / 256 ^ n := by
        have := congrArg UInt8.toNat h1
        simpa [Nat.mod_eq_of_lt hdx, Nat.mod_eq_of_lt hdy] using this
      rw [low_cut n n (Nat.le_refl _) x, low_cut n n (Nat.le_refl _) y] at h2
      have e2 := low_inj n _ _ (Nat.mod_lt x hp) (Nat.mod_lt y hp) h2
      have dx := Nat.div_add_mod x (256 ^ n)
      have dy := Nat.div_add_mod y (256 ^ n)
      rw [e1, e2] at dx
      omega
theorem text_back (t : ByteArray) (most : Int) (h : (t.size : Int) ≤ most) (h16 : t.size ≤ 65535) (rest : List UInt8) : (⟨⟨(textL t ++ rest).toArray⟩, 0⟩ : Rdr).text most = (t, ⟨⟨rest.toArray⟩, 0⟩) := by
  have hn := num_back 2 t.size (by decide) (by decide) (by show t.size < 65536; omega) (t.data.toList ++ rest)
  have ht := take_back t.data.toList rest
  rw [size_toList, bytes_mk] at ht
  unfold Rdr.text textL
  rw [List.append_assoc]
  rw [if_neg (fun h => h rfl)]
  simp only
  rw [show ((2 : Nat) : Int) = 2 from rfl] at hn
  rw [hn]
  simp only
  rw [if_neg (show ¬ (True ∧ most < (t.size : Int)) from fun hh => by omega), ht, if_neg (fun h => h rfl)]
theorem texts_back (l : List ByteArray) (most : Int) (h : ∀ t ∈ l, (t.size : Int) ≤ most ∧ t.size ≤ 65535) (rest : List UInt8) : ∀ k, k ≤ l.length → (⟨⟨(textsL l ++ rest).toArray⟩, 0⟩ : Rdr).texts most k = (l.take k, ⟨⟨(textsL (l.drop k) ++ rest).toArray⟩, 0⟩)
  | 0, _ => by simp [Rdr.texts]
  | k + 1, hk => by
    have ih := texts_back l most h rest k (by omega)
    have hd : l.drop k = l[k]'(by omega) :: l.drop (k + 1) := (List.drop_eq_getElem_cons (by omega))
    have ht := h (l[k]'(by omega)) (List.getElem_mem _)
    simp only [Rdr.texts, ih]
    rw [hd]
    have e : textsL (l[k]'(by omega) :: l.drop (k + 1)) ++ rest = textL (l[k]'(by omega)) ++ (textsL (l.drop (k + 1)) ++ rest) := by unfold textsL; rw [List.flatMap_cons, List.append_assoc]
    rw [e, text_back _ most ht.1 ht.2, List.take_succ_eq_append_getElem (by omega)]
theorem list_back (l : List ByteArray) (many most : Int) (hl : (l.length : Int) ≤ many) (h255 : l.length ≤ 255) (h : ∀ t ∈ l, (t.size : Int) ≤ most ∧ t.size ≤ 65535) (rest : List UInt8) :
    (⟨⟨(low 1 l.length ++ textsL l ++ rest).toArray⟩, 0⟩ : Rdr).list many most = (l, ⟨⟨rest.toArray⟩, 0⟩) := by
  have hn := num_back 1 l.length (by decide) (by decide) (by show l.length < 256; omega) (textsL l ++ rest)
  have ht := texts_back l most h rest l.length (Nat.le_refl _)
  unfold Rdr.list
  rw [List.append_assoc]
  rw [if_neg (fun h => h rfl)]
  simp only
  rw [show ((1 : Nat) : Int) = 1 from rfl] at hn
  rw [hn]
  simp only [Int.toNat_natCast]
  rw [if_neg (show ¬ (True ∧ many < (l.length : Int)) from fun hh => by omega), ht, if_neg (fun h => h rfl)]
  simp [textsL]
end Go.Proofs.Ytofffmnkoelifaa.oc
namespace Go.Proofs.Ytofffmnkoelifaa.rc
open Go.RowKit
open Go.Proofs.Ytofffmnkoelifaa.oc

/-- What is sealed of a record. -/
def insideL (m : MsgS) : List UInt8 := low 1 m.kind.toNat ++ (low 1 m.queue.toNat ++ (low 1 m.retry.toNat ++ (low 6 m.born.toNat ++ (low 6 m.due.toNat ++ (low 6 m.ref.toNat ++ (textL m.topic ++ (textL m.tag ++ (textL m.body ++ (low 1 m.keys.length ++ textsL m.keys)))))))))
/-- The record of what was sealed, and the reader's end. -/
def openS (s : ByteArray) : MsgS × Rdr :=
  let a1 := (⟨s, 0⟩ : Rdr).num 1
  let a2 := a1.2.num 1
  let a3 := a2.2.num 1
  let a4 := a3.2.num 6
  let a5 := a4.2.num 6
  let a6 := a5.2.num 6
  let b1 := a6.2.text 16
  let b2 := b1.2.text 16
  let b3 := b2.2.text 200
  let c := b3.2.list 3 16
  (⟨a1.1, a2.1, a5.1, a3.1, a6.1, a4.1, b1.1, b2.1, b3.1, c.1⟩, c.2)
/-- Bytes that are a record's are just its bytes. -/
theorem inside_open {s : ByteArray} (h : (openS s).2.end_ = 0) : s = ⟨(insideL (openS s).1).toArray⟩ := by
  unfold openS at h ⊢
  simp only at h ⊢
  unfold Rdr.end_ at h
  generalize ha1 : (⟨s, 0⟩ : Rdr).num 1 = a1 at h ⊢
  generalize ha2 : a1.2.num 1 = a2 at h ⊢
  generalize ha3 : a2.2.num 1 = a3 at h ⊢
  generalize ha4 : a3.2.num 6 = a4 at h ⊢
  generalize ha5 : a4.2.num 6 = a5 at h ⊢
  generalize ha6 : a5.2.num 6 = a6 at h ⊢
  generalize hb1 : a6.2.text 16 = b1 at h ⊢
  generalize hb2 : b1.2.text 16 = b2 at h ⊢
  generalize hb3 : b2.2.text 200 = b3 at h ⊢
  generalize hc : b3.2.list 3 16 = c at h ⊢
  by_cases he : c.2.e ≠ 0
  · rw [if_pos he] at h; exact absurd h he
  rw [if_neg he] at h
  by_cases hz : c.2.s.size = 0
  · have he0 : c.2.e = 0 := by simpa using he
    have oc := (list_over (by rw [hc]; exact he0)).1
    have ob3 := (text_over (by rw [hb3]; rw [← hc] at he0; exact oc.ok)).1
    have ob2 := (text_over (by rw [hb2]; exact ob3.ok)).1
    have ob1 := (text_over (by rw [hb1]; exact ob2.ok)).1
    have oa6 := num_over (n := 6) (by decide) (by decide) (by show (Rdr.num _ 6).2.e = 0; rw [ha6]; exact ob1.ok)
    have oa5 := num_over (n := 6) (by decide) (by decide) (by show (Rdr.num _ 6).2.e = 0; rw [ha5]; exact oa6.ok)
    have oa4 := num_over (n := 6) (by decide) (by decide) (by show (Rdr.num _ 6).2.e = 0; rw [ha4]; exact oa5.ok)
    have oa3 := num_over (n := 1) (by decide) (by decide) (by show (Rdr.num _ 1).2.e = 0; rw [ha3]; exact oa4.ok)
    have oa2 := num_over (n := 1) (by decide) (by decide) (by show (Rdr.num _ 1).2.e = 0; rw [ha2]; exact oa3.ok)
    have oa1 := num_over (n := 1) (by decide) (by decide) (by show (Rdr.num _ 1).2.e = 0; rw [ha1]; exact oa2.ok)
    rw [hc] at oc
    rw [hb3] at ob3
    rw [hb2] at ob2
    rw [hb1] at ob1
    rw [show Rdr.num _ ((6 : Nat) : Int) = a6 from ha6] at oa6
    rw [show Rdr.num _ ((6 : Nat) : Int) = a5 from ha5] at oa5
    rw [show Rdr.num _ ((6 : Nat) : Int) = a4 from ha4] at oa4
    rw [show Rdr.num _ ((1 : Nat) : Int) = a3 from ha3] at oa3
    rw [show Rdr.num _ ((1 : Nat) : Int) = a2 from ha2] at oa2
    rw [show Rdr.num _ ((1 : Nat) : Int) = a1 from ha1] at oa1
    have all := oa1.trans (oa2.trans (oa3.trans (oa4.trans (oa5.trans (oa6.trans (ob1.trans (ob2.trans (ob3.trans oc))))))))
    have hb := all.bytes
    have hn : c.2.s.data.toList = [] := List.eq_nil_of_length_eq_zero (by rw [size_toList]; exact hz)
    rw [hn, List.append_nil] at hb
    apply ba_ext
    exact hb
  · rw [if_neg hz] at h; cases h
/-- A record that fits comes back from its bytes. -/
theorem open_inside (m : MsgS) (h1 : 0 ≤ m.kind ∧ m.kind < 256) (h2 : 0 ≤ m.queue ∧ m.queue < 256) (h3 : 0 ≤ m.retry ∧ m.retry < 256) (h4 : 0 ≤ m.born ∧ m.born < 281474976710656) (h5 : 0 ≤ m.due ∧ m.due < 281474976710656) (h6 : 0 ≤ m.ref ∧ m.ref < 281474976710656)
    (ht : m.topic.size ≤ 16) (hg : m.tag.size ≤ 16) (hb : m.body.size ≤ 200) (hk : m.keys.length ≤ 3) (hks : ∀ s ∈ m.keys, s.size ≤ 16) : openS ⟨(insideL m).toArray⟩ = (m, ⟨⟨#[]⟩, 0⟩) := by
  obtain ⟨kd, q, du, rt, rf, bn, tp, tg, bd, ks⟩ := m
  simp only at *
  have n1 := num_back 1 kd.toNat (by decide) (by decide) (by show _ < 256; omega)
  have n2 := num_back 1 q.toNat (by decide) (by decide) (by show _ < 256; omega)
  have n3 := num_back 1 rt.toNat (by decide) (by decide) (by show _ < 256; omega)
  have n4 := num_back 6 bn.toNat (by decide) (by decide) (by show _ < 281474976710656; omega)
  have n5 := num_back 6 du.toNat (by decide) (by decide) (by show _ < 281474976710656; omega)
  have n6 := num_back 6 rf.toNat (by decide) (by decide) (by show _ < 281474976710656; omega)
  rw [show ((kd.toNat : Nat) : Int) = kd by omega] at n1
  rw [show ((q.toNat : Nat) : Int) = q by omega] at n2
  rw [show ((rt.toNat : Nat) : Int) = rt by omega] at n3
  rw [show ((bn.toNat : Nat) : Int) = bn by omega] at n4
  rw [show ((du.toNat : Nat) : Int) = du by omega] at n5
  rw [show ((rf.toNat : Nat) : Int) = rf by omega] at n6
  have t1 := text_back tp 16 (by omega) (by omega)
  have t2 := text_back tg 16 (by omega) (by omega)
  have t3 := text_back bd 200 (by omega) (by omega)
  have l1 := list_back ks 3 16 (by omega) (by omega) (fun t ht => by have := hks t ht; omega) []
  rw [List.append_nil] at l1
  simp only [show ((1 : Nat) : Int) = 1 from rfl, show ((6 : Nat) : Int) = 6 from rfl] at n1 n2 n3 n4 n5 n6
  unfold openS insideL
  simp only [n1, n2, n3, n4, n5, n6, t1, t2, t3, l1]
end Go.Proofs.Ytofffmnkoelifaa.rc

/- Plain: check sums, bit by bit, by bytes and by four bytes at once. -/
namespace Go.Proofs.Ytofffmnkoelifaa.cr
open Go.RowKit

def poly : Nat := 3988292384
/-- One bit. -/
def step1 (x : Nat) : Nat := x / 2 ^^^ (if x % 2 = 1 then poly else 0)
def steps : Nat → Nat → Nat
  | 0, x => x
  | n + 1, x => steps n (step1 x)
theorem step1_xor (a b : Nat) : step1 (a ^^^ b) = step1 a ^^^ step1 b := by
  unfold step1
  rw [Nat.xor_div_two]
  have h := @Nat.xor_mod_two_eq_one a b
  by_cases ha : a % 2 = 1 <;> by_cases hb : b % 2 = 1
  · rw [if_neg (by rw [h]; simp [ha, hb]), if_pos ha, if_pos hb, Nat.xor_zero]
    rw [Nat.xor_assoc (a / 2), ← Nat.xor_assoc poly, Nat.xor_comm poly (b / 2), Nat.xor_assoc (b / 2), Nat.xor_self, Nat.xor_zero]
  · rw [if_pos (by rw [h]; simp [ha, hb]), if_pos ha, if_neg hb, Nat.xor_zero, Nat.xor_assoc, Nat.xor_comm (b / 2), ← Nat.xor_assoc]
  · rw [if_pos (by rw [h]; simp [ha, hb]), if_neg ha, if_pos hb, Nat.xor_zero, Nat.xor_assoc]
  · rw [if_neg (by rw [h]; simp [ha, hb]), if_neg ha, if_neg hb, Nat.xor_zero, Nat.xor_zero, Nat.xor_zero]
theorem steps_xor : ∀ (n a b : Nat), steps n (a ^^^ b) = steps n a ^^^ steps n b
  | 0, _, _ => rfl
  | n + 1, a, b => by unfold steps; rw [step1_xor, steps_xor n]
theorem steps_add : ∀ (m n x : Nat), steps (m + n) x = steps n (steps m x)
  | 0, n, x => by rw [Nat.zero_add]; rfl
  | m + 1, n, x => by rw [Nat.succ_add]; show steps (m + n) (step1 x) = _; rw [steps_add m n]; rfl
theorem step1_lt {x : Nat} (h : x < 4294967296) : step1 x < 4294967296 := by
  unfold step1
  refine Nat.xor_lt_two_pow (n := 32) (by omega) ?_
  split <;> decide
theorem steps_lt : ∀ (n : Nat) {x : Nat}, x < 4294967296 → steps n x < 4294967296
  | 0, _, h => h
  | n + 1, _, h => steps_lt n (step1_lt h)
theorem step1_even (y : Nat) : step1 (2 * y) = y := by
  unfold step1
  rw [if_neg (by omega), Nat.xor_zero]; omega
theorem steps_pow : ∀ (n y : Nat), steps n (2 ^ n * y) = y
  | 0, y => by simp [steps]
  | n + 1, y => by
    unfold steps
    rw [show 2 ^ (n + 1) * y = 2 * (2 ^ n * y) by rw [Nat.pow_succ, Nat.mul_comm (2 ^ n) 2, Nat.mul_assoc], step1_even, steps_pow n]
theorem xor_split (n x : Nat) : (x % 2 ^ n) ^^^ (2 ^ n * (x / 2 ^ n)) = x := by
  apply Nat.eq_of_testBit_eq
  intro i
  rw [Nat.testBit_xor, Nat.testBit_mod_two_pow, Nat.testBit_two_pow_mul]
  by_cases h : i < n
  · rw [decide_eq_true h, decide_eq_false (by omega)]; simp
  · rw [decide_eq_false h, decide_eq_true (by omega), Nat.testBit_div_two_pow]
    simp only [Bool.false_and, Bool.true_and, Bool.false_xor]
    rw [show i - n + n = i by omega]
/-- A byte's worth of bits, by the first table. -/
theorem steps8 (x : Nat) : steps 8 x = steps 8 (x % 256) ^^^ x / 256 := by
  conv => lhs; rw [← xor_split 8 x]
  rw [steps_xor, steps_pow]
theorem tab_next (k b : Nat) : steps (8 * (k + 1 + 1)) b = steps 8 (steps (8 * (k + 1)) b % 256) ^^^ steps (8 * (k + 1)) b / 256 := by
  rw [← steps8, ← steps_add]; congr 1
/-- A byte. -/
def crcB (x : Nat) (b : UInt8) : Nat := steps 8 (x ^^^ b.toNat)
theorem crcB_lt {x : Nat} (h : x < 4294967296) (b : UInt8) : crcB x b < 4294967296 := steps_lt 8 (Nat.xor_lt_two_pow (n := 32) (by omega) (by have := b.toNat_lt; omega))
theorem xor_mod (x b : Nat) (hb : b < 256) : (x ^^^ b) % 256 = (x % 256) ^^^ b := by
  have := @Nat.xor_mod_two_pow x b 8
  rw [show (2 : Nat) ^ 8 = 256 from rfl, Nat.mod_eq_of_lt hb] at this
  exact this
theorem xor_div (x b : Nat) (hb : b < 256) : (x ^^^ b) / 256 = x / 256 := by
  have := @Nat.xor_div_two_pow x b 8
  rw [show (2 : Nat) ^ 8 = 256 from rfl, Nat.div_eq_of_lt hb, Nat.xor_zero] at this
  exact this
theorem crcB_tab (x : Nat) (b : UInt8) : crcB x b = steps 8 ((x % 256) ^^^ b.toNat) ^^^ x / 256 := by
  unfold crcB
  rw [steps8, xor_mod _ _ b.toNat_lt, xor_div _ _ b.toNat_lt]
theorem steps_shift (m n y : Nat) : steps (m + n) (2 ^ m * y) = steps n y := by rw [steps_add, steps_pow]
/-- Four bytes at once. -/
theorem four_steps (x a b c d : Nat) : steps 8 (steps 8 (steps 8 (steps 8 (x ^^^ a) ^^^ b) ^^^ c) ^^^ d) = steps 32 (x ^^^ (a ^^^ (256 * b) ^^^ (65536 * c) ^^^ (16777216 * d))) := by
  have hb := steps_shift 8 24 b
  have hc := steps_shift 16 16 c
  have hd := steps_shift 24 8 d
  simp only [show (8 : Nat) + 24 = 32 from rfl, show (16 : Nat) + 16 = 32 from rfl, show (24 : Nat) + 8 = 32 from rfl, show (2 : Nat) ^ 8 = 256 from rfl, show (2 : Nat) ^ 16 = 65536 from rfl, show (2 : Nat) ^ 24 = 16777216 from rfl] at hb hc hd
  simp only [steps_xor, hb, hc, hd, ← steps_add]
  simp only [show (8 : Nat) + (8 + (8 + 8)) = 32 from rfl, show (8 : Nat) + (8 + 8) = 24 from rfl, show (8 : Nat) + 8 = 16 from rfl, Nat.xor_assoc]
theorem mul_xor (n a b : Nat) : (a ^^^ b) * 2 ^ n = (a * 2 ^ n) ^^^ (b * 2 ^ n) := by
  have := @Nat.shiftLeft_xor_distrib n a b
  rwa [Nat.shiftLeft_eq, Nat.shiftLeft_eq, Nat.shiftLeft_eq] at this
theorem mul_a (z : Nat) : 256 * z * 256 = 65536 * z := by omega
theorem mul_b (z : Nat) : 256 * z * 65536 = 16777216 * z := by omega
theorem steps32 (y : Nat) (h : y < 4294967296) : steps 32 y = steps 32 (y % 256) ^^^ steps 24 (y / 256 % 256) ^^^ steps 16 (y / 65536 % 256) ^^^ steps 8 (y / 16777216) := by
  have e : y = (y % 256) ^^^ ((256 * (y / 256 % 256)) ^^^ ((65536 * (y / 65536 % 256)) ^^^ (16777216 * (y / 16777216)))) := by
    have h1 := xor_split 8 y
    have h2 := xor_split 8 (y / 256)
    have h3 := xor_split 8 (y / 65536)
    simp only [show (2 : Nat) ^ 8 = 256 from rfl] at h1 h2 h3
    have d2 : y / 256 / 256 = y / 65536 := by rw [Nat.div_div_eq_div_mul]
    have d3 : y / 65536 / 256 = y / 16777216 := by rw [Nat.div_div_eq_div_mul]
    rw [d2] at h2
    rw [d3] at h3
    have m1 : 256 * (y / 256) = (256 * (y / 256 % 256)) ^^^ (65536 * (y / 65536)) := by
      conv => lhs; rw [← h2]
      have e := mul_xor 8 (y / 256 % 256) (256 * (y / 65536))
      rw [show (2 : Nat) ^ 8 = 256 from rfl] at e
      rw [Nat.mul_comm 256 (y / 256 % 256 ^^^ _), e, Nat.mul_comm (y / 256 % 256) 256, mul_a]
    have m2 : 65536 * (y / 65536) = (65536 * (y / 65536 % 256)) ^^^ (16777216 * (y / 16777216)) := by
      conv => lhs; rw [← h3]
      have e := mul_xor 16 (y / 65536 % 256) (256 * (y / 16777216))
      rw [show (2 : Nat) ^ 16 = 65536 from rfl] at e
      rw [Nat.mul_comm 65536 (y / 65536 % 256 ^^^ _), e, Nat.mul_comm (y / 65536 % 256) 65536, mul_b]
    rw [← m2, ← m1, h1]
  have hb := steps_shift 8 24 (y / 256 % 256)
  have hc := steps_shift 16 16 (y / 65536 % 256)
  have hd := steps_shift 24 8 (y / 16777216)
  simp only [show (8 : Nat) + 24 = 32 from rfl, show (16 : Nat) + 16 = 32 from rfl, show (24 : Nat) + 8 = 32 from rfl, show (2 : Nat) ^ 8 = 256 from rfl, show (2 : Nat) ^ 16 = 65536 from rfl, show (2 : Nat) ^ 24 = 16777216 from rfl] at hb hc hd
  conv => lhs; rw [e]
  simp only [steps_xor, hb, hc, hd, Nat.xor_assoc]
/-- A text's sum. -/
def crcN (l : List UInt8) : Nat := 4294967295 ^^^ l.foldl crcB 4294967295
theorem fold_lt : ∀ (l : List UInt8) {x : Nat}, x < 4294967296 → l.foldl crcB x < 4294967296
  | [], _, h => h
  | b :: l, _, h => fold_lt l (crcB_lt h b)
theorem crcN_lt (l : List UInt8) : crcN l < 4294967296 := Nat.xor_lt_two_pow (n := 32) (by decide) (fold_lt l (by decide))
end Go.Proofs.Ytofffmnkoelifaa.cr

/- Plain: a record's bytes, sealed and told; what any bytes are. -/
namespace Go.Proofs.Ytofffmnkoelifaa.rc
open Go.RowKit
open Go.Proofs.Ytofffmnkoelifaa.oc Go.Proofs.Ytofffmnkoelifaa.cr

abbrev markC : ByteArray := ⟨#[165]⟩
abbrev blankC : ByteArray := ⟨#[90]⟩
abbrev zeroM : MsgS := ⟨0, 0, 0, 0, 0, 0, ⟨#[]⟩, ⟨#[]⟩, ⟨#[]⟩, []⟩
abbrev fillM (n : Nat) : MsgS := ⟨0, 0, 0, 0, 0, 0, ⟨#[]⟩, ⟨#[]⟩, zerosB n, []⟩
/-- Sealed bytes. -/
def sealL (l : List UInt8) : List UInt8 := low 4 (crcN l) ++ l
def fillB (n : Nat) : ByteArray := ⟨((90 : UInt8) :: (low 2 n ++ List.replicate (n - 3) 0)).toArray⟩
def recB (m : MsgS) : ByteArray := ⟨((165 : UInt8) :: (low 2 (3 + (sealL (insideL m)).length) ++ sealL (insideL m))).toArray⟩
/-- What was sealed. -/
def openSeal (t : ByteArray) : Option ByteArray := if t.size < 4 ∨ t.data.toList.take 4 ≠ low 4 (crcN (t.data.toList.drop 4)) then none else some (t.extract 4 t.size)
section
variable (P : MsgS → Prop) [DecidablePred P]
/-- A record's bytes, and the error's number. -/
def putS (m : MsgS) : ByteArray × Int :=
  if ¬ P m then (⟨#[]⟩, 1) else if m.kind = 0 then (if 3 ≤ m.body.size ∧ m.body.size ≤ 1024 then (fillB m.body.size, 0) else (⟨#[]⟩, 1)) else (recB m, 0)
/-- The record of bytes, how many it has, and the error's number. -/
def getS (s : ByteArray) : MsgS × Int × Int :=
  let a := (⟨s, 0⟩ : Rdr).take 1
  let b := a.2.num 2
  let c := b.2.take (max (b.1 - 3) 0)
  if a.1 ≠ ⟨#[]⟩ ∧ a.1 ≠ markC ∧ a.1 ≠ blankC then (zeroM, 0, 4)
  else if s.size < 3 then (zeroM, 0, 3)
  else if b.1 < 3 ∨ (a.1 = blankC ∧ 1024 < b.1) then (zeroM, 0, 4)
  else if c.2.e ≠ 0 then (zeroM, 0, 3)
  else if a.1 = blankC ∧ c.1 ≠ zerosB c.1.size then (zeroM, 0, 4)
  else if a.1 = blankC then (fillM b.1.toNat, b.1, 0)
  else match openSeal c.1 with
    | none => (zeroM, 0, 5)
    | some t => if (openS t).2.end_ = 0 ∧ (openS t).1.kind ≠ 0 ∧ P (openS t).1 then ((openS t).1, b.1, 0) else (zeroM, 0, 4)
variable {P}
theorem seal_back {t : ByteArray} {u : ByteArray} (h : openSeal t = some u) : t.data.toList = sealL u.data.toList := by
  unfold openSeal at h
  split at h
  · cases h
  · rename_i hc
    have h1 : ¬ t.size < 4 := fun h => hc (.inl h)
    have h2 : t.data.toList.take 4 = low 4 (crcN (t.data.toList.drop 4)) := Classical.byContradiction fun h => hc (.inr h)
    cases h
    have e : (t.extract 4 t.size).data.toList = t.data.toList.drop 4 := by
      simp only [ByteArray.data_extract, Array.toList_extract, List.extract_eq_take_drop]
      exact List.take_of_length_le (by rw [List.length_drop, size_toList]; exact Nat.le_refl _)
    rw [e]
    unfold sealL
    rw [← h2, List.take_append_drop]
theorem seal_open (l : List UInt8) : openSeal ⟨(sealL l).toArray⟩ = some ⟨l.toArray⟩ := by
  have hsz : (⟨(sealL l).toArray⟩ : ByteArray).size = 4 + l.length := by show (sealL l).toArray.size = _; unfold sealL; simp [low_length]
  unfold openSeal
  have ht : (sealL l).take 4 = low 4 (crcN l) := by unfold sealL; rw [List.take_append_of_le_length (by rw [low_length]; exact Nat.le_refl _), List.take_of_length_le (by rw [low_length]; exact Nat.le_refl _)]
  have hd : (sealL l).drop 4 = l := by unfold sealL; rw [List.drop_append_of_le_length (by rw [low_length]; exact Nat.le_refl _), List.drop_of_length_le (by rw [low_length]; exact Nat.le_refl _), List.nil_append]
  rw [if_neg (by
    rintro (h | h)
    · rw [hsz] at h; omega
    · simp only at h; rw [ht, hd] at h; exact h rfl)]
  congr 1
  apply ba_ext
  rw [hsz]
  simp only [ByteArray.data_extract, Array.toList_extract, List.extract_eq_take_drop]
  rw [hd]
  exact List.take_of_length_le (by omega)
/-- Bytes that are a record begin with just its bytes. -/
theorem get_put (h0 : ∀ n, n ≤ 1024 → P (fillM n)) {s : ByteArray} {x : MsgS} {n : Int} (h : getS P s = (x, n, 0)) : ∃ r, (putS P x).2 = 0 ∧ s.data.toList = (putS P x).1.data.toList ++ r ∧ n = (putS P x).1.size := by
  unfold getS at h
  simp only at h
  generalize ha : (⟨s, 0⟩ : Rdr).take 1 = a at h
  generalize hb : a.2.num 2 = b at h
  generalize hc : b.2.take (max (b.1 - 3) 0) = c at h
  by_cases c1 : a.1 ≠ ⟨#[]⟩ ∧ a.1 ≠ markC ∧ a.1 ≠ blankC
  · rw [if_pos c1] at h; simp at h
  rw [if_neg c1] at h
  by_cases c2 : s.size < 3
  · rw [if_pos c2] at h; simp at h
  rw [if_neg c2] at h
  by_cases c3 : b.1 < 3 ∨ (a.1 = blankC ∧ 1024 < b.1)
  · rw [if_pos c3] at h; simp at h
  rw [if_neg c3] at h
  by_cases c4 : c.2.e ≠ 0
  · rw [if_pos c4] at h; simp at h
  rw [if_neg c4] at h
  have c4' : c.2.e = 0 := by simpa using c4
  obtain ⟨oc, nc⟩ := take_over (by rw [hc]; exact c4')
  have ob := num_over (n := 2) (by decide) (by decide) (by show (Rdr.num _ 2).2.e = 0; rw [hb]; exact oc.ok)
  obtain ⟨oa, na⟩ := take_over (by rw [ha]; exact ob.ok)
  rw [hc] at oc nc
  rw [show Rdr.num _ ((2 : Nat) : Int) = b from hb] at ob
  rw [ha] at oa na
  have all := (oa.trans (ob.trans oc)).bytes
  simp only at all
  have hb3 : 3 ≤ b.1 := by omega
  by_cases c5 : a.1 = blankC ∧ c.1 ≠ zerosB c.1.size
  · rw [if_pos c5] at h; simp at h
  rw [if_neg c5] at h
  by_cases c6 : a.1 = blankC
  · rw [if_pos c6] at h
    simp only [Prod.mk.injEq, and_true] at h
    obtain ⟨rfl, rfl⟩ := h
    have hz : c.1 = zerosB c.1.size := Classical.byContradiction fun hh => c5 ⟨c6, hh⟩
    have hle : b.1.toNat ≤ 1024 := by
      have : ¬ 1024 < b.1 := fun hh => c3 (.inr ⟨c6, hh⟩)
      omega
    have hput : putS P (fillM b.1.toNat) = (fillB b.1.toNat, 0) := by
      unfold putS
      rw [if_neg (fun hh => hh (h0 _ hle)), if_pos rfl]
      simp only [zerosB_size]
      rw [if_pos ⟨by omega, hle⟩]
    rw [hput]
    refine ⟨c.2.s.data.toList, rfl, ?_, ?_⟩
    · rw [all, c6, hz]
      have hcs : c.1.size = b.1.toNat - 3 := by omega
      rw [hcs]
      unfold fillB zerosB
      simp
    · show b.1 = ((fillB b.1.toNat).size : Int)
      have : (fillB b.1.toNat).size = 1 + (2 + (b.1.toNat - 3)) := by show (_ : List UInt8).toArray.size = _; simp [low_length]; omega
      rw [this]; omega
  · rw [if_neg c6] at h
    have hmark : a.1 = markC := by
      have h1 : a.1 ≠ ⟨#[]⟩ := fun e => by rw [e] at na; cases na
      exact Classical.byContradiction fun hh => c1 ⟨h1, hh, c6⟩
    cases ho : openSeal c.1 with
    | none => rw [ho] at h; simp at h
    | some t =>
      rw [ho] at h
      simp only at h
      by_cases c7 : (openS t).2.end_ = 0 ∧ (openS t).1.kind ≠ 0 ∧ P (openS t).1
      · rw [if_pos c7] at h
        obtain ⟨e1, e2, e3⟩ := c7
        simp only [Prod.mk.injEq, and_true] at h
        obtain ⟨rfl, rfl⟩ := h
        have hput : putS P (openS t).1 = (recB (openS t).1, 0) := by
          unfold putS
          rw [if_neg (fun hh => hh e3), if_neg e2]
        have hin := inside_open e1
        have hs := seal_back ho
        have hs2 : c.1.data.toList = sealL (insideL (openS t).1) := by rw [hs]; conv => lhs; rw [hin]
        have hlen : (sealL (insideL (openS t).1)).length = c.1.size := by rw [← hs2, size_toList]
        rw [hput]
        refine ⟨c.2.s.data.toList, rfl, ?_, ?_⟩
        · rw [all, hmark, hs2]
          unfold recB
          rw [hlen, show 3 + c.1.size = b.1.toNat by omega]
          simp
        · show b.1 = ((recB (openS t).1).size : Int)
          have : (recB (openS t).1).size = 1 + (2 + (sealL (insideL (openS t).1)).length) := by show (_ : List UInt8).toArray.size = _; simp [low_length]; omega
          rw [this, hlen]; omega
      · rw [if_neg c7] at h; simp at h
/-- It fits into its bytes. -/
structure Fits (m : MsgS) : Prop where
  kind : 0 ≤ m.kind ∧ m.kind < 256
  queue : 0 ≤ m.queue ∧ m.queue < 256
  retry : 0 ≤ m.retry ∧ m.retry < 256
  born : 0 ≤ m.born ∧ m.born < 281474976710656
  due : 0 ≤ m.due ∧ m.due < 281474976710656
  ref : 0 ≤ m.ref ∧ m.ref < 281474976710656
  topic : m.topic.size ≤ 16
  tag : m.tag.size ≤ 16
  body : m.body.size ≤ 200
  keys : m.keys.length ≤ 3
  key : ∀ s ∈ m.keys, s.size ≤ 16
theorem textsL_le : ∀ (l : List ByteArray), (∀ s ∈ l, s.size ≤ 16) → (textsL l).length ≤ 18 * l.length
  | [], _ => by simp [textsL]
  | s :: l, h => by
    have h1 := h s (List.mem_cons_self ..)
    have h2 := textsL_le l (fun t ht => h t (List.mem_cons_of_mem _ ht))
    have h3 : textsL (s :: l) = textL s ++ textsL l := by unfold textsL; rw [List.flatMap_cons]
    rw [h3, List.length_append, textL_length, List.length_cons]
    omega
theorem inside_length {m : MsgS} (h : Fits m) : (insideL m).length ≤ 314 := by
  have h1 := textsL_le m.keys h.key
  have := h.topic
  have := h.tag
  have := h.body
  have := h.keys
  unfold insideL
  simp only [List.length_append, low_length, textL_length]
  omega
theorem seal_length (l : List UInt8) : (sealL l).length = 4 + l.length := by unfold sealL; rw [List.length_append, low_length]
/-- The reader's way over a head, a number and so many bytes. -/
theorem read_head (x : UInt8) (n : Nat) (hn : n < 65536) (a r : List UInt8) (ha : a.length = n - 3) (h3 : 3 ≤ n) :
    (⟨⟨(x :: (low 2 n ++ (a ++ r))).toArray⟩, 0⟩ : Rdr).take 1 = (⟨#[x]⟩, ⟨⟨(low 2 n ++ (a ++ r)).toArray⟩, 0⟩) ∧
    (⟨⟨(low 2 n ++ (a ++ r)).toArray⟩, 0⟩ : Rdr).num 2 = ((n : Int), ⟨⟨(a ++ r).toArray⟩, 0⟩) ∧
    (⟨⟨(a ++ r).toArray⟩, 0⟩ : Rdr).take (max ((n : Int) - 3) 0) = (⟨a.toArray⟩, ⟨⟨r.toArray⟩, 0⟩) := by
  refine ⟨?_, ?_, ?_⟩
  · exact take_back [x] (low 2 n ++ (a ++ r))
  · exact num_back 2 n (by decide) (by decide) hn (a ++ r)
  · have := take_back a r
    rwa [ha, show (((n - 3 : Nat) : Int)) = max ((n : Int) - 3) 0 by omega] at this
theorem get_rec (hfit : ∀ m, P m → m.kind ≠ 0 → Fits m) {m : MsgS} (hp : P m) (hk : m.kind ≠ 0) (r : List UInt8) : getS P ⟨((recB m).data.toList ++ r).toArray⟩ = (m, ((recB m).size : Int), 0) := by
  have F := hfit m hp hk
  have hl := inside_length F
  have hsl := seal_length (insideL m)
  have hsz : (recB m).size = 3 + (sealL (insideL m)).length := by show (_ : List UInt8).toArray.size = _; simp [low_length]; omega
  have hopen := open_inside m F.kind F.queue F.retry F.born F.due F.ref F.topic F.tag F.body F.keys F.key
  have he : (recB m).data.toList ++ r = (165 : UInt8) :: (low 2 (3 + (sealL (insideL m)).length) ++ (sealL (insideL m) ++ r)) := by unfold recB; simp
  obtain ⟨t1, t2, t3⟩ := read_head 165 (3 + (sealL (insideL m)).length) (by omega) (sealL (insideL m)) r (by omega) (by omega)
  have hs3 : ¬ (⟨((165 : UInt8) :: (low 2 (3 + (sealL (insideL m)).length) ++ (sealL (insideL m) ++ r))).toArray⟩ : ByteArray).size < 3 := by
    show ¬ (_ : List UInt8).toArray.size < 3
    simp [low_length] <;> omega
  rw [he]
  unfold getS
  simp only [t1, t2, t3]
  rw [if_neg (by simp), if_neg hs3, if_neg (by rintro (h | ⟨h, _⟩); omega; cases h), if_neg (fun h => h rfl), if_neg (by rintro ⟨h, _⟩; cases h), if_neg (fun h => by cases h), seal_open]
  simp only [hopen]
  rw [if_pos ⟨by rfl, hk, hp⟩, hsz]
theorem get_fill (n : Nat) (h3 : 3 ≤ n) (h : n ≤ 1024) (r : List UInt8) : getS P ⟨((fillB n).data.toList ++ r).toArray⟩ = (fillM n, (n : Int), 0) := by
  have he : (fillB n).data.toList ++ r = (90 : UInt8) :: (low 2 n ++ (List.replicate (n - 3) 0 ++ r)) := by unfold fillB; simp
  obtain ⟨t1, t2, t3⟩ := read_head 90 n (by omega) (List.replicate (n - 3) 0) r (by simp) h3
  have hs3 : ¬ (⟨((90 : UInt8) :: (low 2 n ++ (List.replicate (n - 3) 0 ++ r))).toArray⟩ : ByteArray).size < 3 := by
    show ¬ (_ : List UInt8).toArray.size < 3
    simp [low_length] <;> omega
  have hz : (⟨(List.replicate (n - 3) (0 : UInt8)).toArray⟩ : ByteArray) = zerosB (n - 3) := rfl
  rw [he]
  unfold getS
  simp only [t1, t2, t3]
  rw [if_neg (by simp), if_neg hs3, if_neg (by rintro (h | ⟨_, h⟩) <;> omega), if_neg (fun h => h rfl), hz, zerosB_size, if_neg (by rintro ⟨_, h⟩; exact h rfl), if_pos (by first | rfl | trivial)]
  simp
/-- A record comes back from its bytes, whatever stands behind. -/
theorem put_get (hfit : ∀ m, P m → m.kind ≠ 0 → Fits m) (hz : ∀ m, P m → m.kind = 0 → m = fillM m.body.size) {m : MsgS} (h : (putS P m).2 = 0) (r : List UInt8) :
    getS P ⟨((putS P m).1.data.toList ++ r).toArray⟩ = (m, ((putS P m).1.size : Int), 0) := by
  unfold putS at h ⊢
  by_cases hp : P m
  · rw [if_neg (fun hh => hh hp)] at h ⊢
    by_cases hk : m.kind = 0
    · rw [if_pos hk] at h ⊢
      by_cases hs : 3 ≤ m.body.size ∧ m.body.size ≤ 1024
      · rw [if_pos hs]
        have hm := hz m hp hk
        have hf : (fillB m.body.size).size = m.body.size := by show (_ : List UInt8).toArray.size = _; simp [low_length]; omega
        simp only [hf]
        rw [get_fill m.body.size hs.1 hs.2 r]
        rw [← hm]
      · rw [if_neg hs] at h; cases h
    · rw [if_neg hk] at h ⊢
      exact get_rec hfit hp hk r
  · rw [if_pos hp] at h; cases h
/-- Unlike right records have unlike bytes. -/
theorem put_inj (hfit : ∀ m, P m → m.kind ≠ 0 → Fits m) (hz : ∀ m, P m → m.kind = 0 → m = fillM m.body.size) {a b : MsgS} (ha : (putS P a).2 = 0) (hb : (putS P b).2 = 0) (h : (putS P a).1 = (putS P b).1) : a = b := by
  have h1 := put_get hfit hz ha []
  have h2 := put_get hfit hz hb []
  rw [h, h2] at h1
  simp only [Prod.mk.injEq] at h1
  exact h1.1.symm
/-- Bytes beside a record's, as many, aren't that record. -/
theorem get_turned (h0 : ∀ n, n ≤ 1024 → P (fillM n)) {s : ByteArray} {m x : MsgS} {n : Int} (hp : (putS P m).2 = 0) (hsz : s.size = (putS P m).1.size) (hne : s ≠ (putS P m).1) (h : getS P s = (x, n, 0)) : x ≠ m := fun e => by
  subst e
  obtain ⟨r, _, hb, _⟩ := get_put h0 h
  have : r = [] := List.eq_nil_of_length_eq_zero (by
    have := congrArg List.length hb
    rw [List.length_append, size_toList, size_toList] at this
    omega)
  rw [this, List.append_nil] at hb
  exact hne (ba_ext hb)
end
end Go.Proofs.Ytofffmnkoelifaa.rc

/- Two lists of texts are compared. -/
namespace Go.Proofs.Ytofffmnkoelifaa
open Go.ChangeShapes Go.WideShapes Go.ChangeAt Go.RowKit

/-- Are two lists one? -/
theorem Texts_any (v u : Value) (l m : List ByteArray) (w : World) (h : StrsAt w v l) (g : StrsAt w u m) (hal : l.length ≤ 4294967296) (hbl : m.length ≤ 4294967296) : Calls Try.prog 46 #[v, u] w fun e w' => e = .returned (.bool (decide (l = m))) ∧ Calm w w' := by
  obtain ⟨a, acap, rfl, ha⟩ := h.uni
  obtain ⟨b, bcap, rfl, hb⟩ := g.uni
  by_cases hlen : l.length = m.length
  · have ha' := box ha
    have hb' := box hb
    have Hl := box hal
    clear ha hb hbl
    rw [← hlen]
    obtain ⟨rr, hrr⟩ : ∃ rr, decide (l = m) = rr := ⟨_, rfl⟩
    rw [hrr]
    have Hrr := box hrr.symm
    clear hrr
    go_enter Try.func46, Try.ntmps46
    go_wp2_with fail
    go_loopw [5] (fun i wr => ∃ k : Nat, k ≤ l.length ∧ i = .int .i64 k ∧ l.take k = m.take k ∧ Calm w wr) (fun i _ => l.length - (intOf i).toNat)
    case atStart => exact ⟨0, Nat.zero_le _, rfl, rfl, .refl _⟩
    case round =>
      obtain ⟨k, hk, rfl, hpre, hC⟩ := hrel
      have Hpre := box hpre
      have HC := box hC
      clear hpre hC
      by_cases hlt : k < l.length
      · obtain ⟨ab, aoff, rfl, hal2, hac⟩ := ha'.out k hlt
        obtain ⟨bb, boff, rfl, hbl2, hbc⟩ := hb'.out k (by omega)
        have hs1 := box (show l.take (k + 1) = l.take k ++ [l[k]] from List.take_succ_eq_append_getElem hlt)
        have hs2 := box (show m.take (k + 1) = m.take k ++ [m[k]'(by omega)] from List.take_succ_eq_append_getElem (by omega))
        have hne := box (fun (h : l[k] ≠ m[k]'(by omega)) => (decide_eq_false (fun e => h (by subst e; rfl)) : decide (l = m) = false))
        have hga : l.getD k ByteArray.empty = l[k] := by rw [List.getD_eq_getElem?_getD, List.getElem?_eq_getElem hlt]; rfl
        have hgb : m.getD k ByteArray.empty = m[k]'(by omega) := by rw [List.getD_eq_getElem?_getD, List.getElem?_eq_getElem (by omega)]; rfl
        rw [hga] at hac
        rw [hgb] at hbc
        clear hga hgb
        obtain ⟨x, hx⟩ : ∃ x, l[k] = x := ⟨_, rfl⟩
        obtain ⟨y, hy⟩ : ∃ y, m[k]'(by omega) = y := ⟨_, rfl⟩
        rw [hx] at hac hs1 hne
        rw [hy] at hbc hs2 hne
        clear hx hy
        have hac' := (HC.out.cell (p := ⟨ab, aoff + k, none⟩) hal2).trans hac
        have hbc' := (HC.out.cell (p := ⟨bb, boff + k, none⟩) hbl2).trans hbc
        have hal3 := Nat.lt_of_lt_of_le hal2 HC.out.size
        have hbl3 := Nat.lt_of_lt_of_le hbl2 HC.out.size
        have hki : (k : Int) < (l.length : Int) := by omega
        have hk0 : (0 : Int) ≤ (k : Int) := by omega
        clear hac hbc
        by_cases heq : x = y
        · subst heq
          go_wp2_with (first | go_quiet (fail) | fail)
          go_wp2_with fail
          go_roundw
          case rel => exact ⟨k + 1, by omega, by go_num, by rw [hs1.out, hs2.out, Hpre.out], HC.out.drewN _⟩
          case measure => simp [intOf]; omega
        · have hb1 : (x.toList == y.toList) = false := beq_eq_false_iff_ne.2 (fun e => heq (ba_ext (by rw [← Lib.toList_data, ← Lib.toList_data]; exact e)))
          have hne := box (hne.out heq)
          clear heq
          go_wp2_with (first | go_quiet (fail) | fail)
          go_wp2_with fail
          go_ret
          exact ⟨ret_bool (by rw [Hrr.out, hne.out]), HC.out.drewN _⟩
      · obtain rfl : k = l.length := by omega
        have hd : decide (l = m) = true := decide_eq_true (by
          have := Hpre.out
          rw [List.take_length, hlen, List.take_length] at this
          exact this)
        have hd := box hd
        go_wp2_with fail
        go_ret
        exact ⟨ret_bool (by rw [Hrr.out, hd.out]), HC.out⟩
  · have hd : decide (l = m) = false := decide_eq_false (fun e => hlen (by rw [e]))
    have hne : (l.length == m.length) = false := by rw [beq_eq_false_iff_ne]; exact hlen
    rw [hd]
    clear hd ha hb
    go_enter Try.func46, Try.ntmps46
    go_wp2_with fail
    all_goals first | (go_ret; exact ⟨rfl, .refl _⟩) | (exfalso; omega)
end Go.Proofs.Ytofffmnkoelifaa

/- Layer 6: two records are one just if all of them is. -/
namespace Go.Proofs.Ytofffmnkoelifaa.rc
open Go.ChangeShapes Go.WideShapes Go.ChangeAt Go.RowKit Go.Shelf
open Go.Proofs.Ytofffmnkoelifaa.nm Go.Proofs.Ytofffmnkoelifaa.vs

theorem MsgS.eq_iff {a b : MsgS} : a = b ↔ a.kind = b.kind ∧ a.queue = b.queue ∧ a.due = b.due ∧ a.retry = b.retry ∧ a.ref = b.ref ∧ a.born = b.born ∧ a.topic = b.topic ∧ a.tag = b.tag ∧ a.body = b.body ∧ a.keys = b.keys := by
  cases a; cases b; simp
instance : DecidableEq MsgS := fun _ _ => decidable_of_iff _ MsgS.eq_iff.symm
/-- The two differ somewhere. -/
theorem differ {a b : MsgS} {r : Bool} (hr : Box (decide (a = b) = r)) (h : a ≠ b) : false = r := by rw [← hr.out, eq_comm]; exact decide_eq_false h
/-- Lists of texts, by the library. -/
theorem Equal_any (v u : Value) (l m : List ByteArray) (w : World) (h : StrsAt w v l) (g : StrsAt w u m) (hl : l.length ≤ 4294967296) (hm : m.length ≤ 4294967296) :
    Calls Try.prog 60 #[v, u] w fun e w' => e = .returned (.bool (decide (l = m))) ∧ Calm w w' := by
  by_cases hlen : l.length = m.length
  · rcases h with ⟨rfl, a, cap, rfl⟩ | ⟨b, off, cap, rfl, hc⟩
    · obtain ⟨ua, ucap, rfl, _⟩ := g.uni
      refine (Try.slices_Equal_string_empty a ua cap m.length ucap w (by omega)).mono ?_
      rintro e w' ⟨rfl, rfl⟩
      have : m = [] := List.eq_nil_of_length_eq_zero (by simpa using hlen.symm)
      exact ⟨ret_bool (by subst this; rfl), Calm.refl _⟩
    · rcases g with ⟨rfl, a2, cap2, rfl⟩ | ⟨b2, off2, cap2, rfl, hc2⟩
      · have : l = [] := List.eq_nil_of_length_eq_zero (by simpa using hlen)
        subst this
        refine (Try.slices_Equal_string_empty (some ⟨b, off, none⟩) a2 cap 0 cap2 w (by decide)).mono ?_
        rintro e w' ⟨rfl, rfl⟩
        exact ⟨rfl, Calm.refl _⟩
      · refine (Try.slices_Equal_string b off l.length cap b2 off2 m.length cap2 l m w (Nat.le_refl _) (Nat.le_refl _) (by omega) (by omega) hc hc2).mono ?_
        rintro e w' ⟨rfl, q, rfl⟩
        exact ⟨ret_bool (by rw [List.take_length, List.take_length]), (Calm.refl _).drewN _⟩
  · obtain ⟨va, vcap, rfl, _⟩ := h.uni
    obtain ⟨ua, ucap, rfl, _⟩ := g.uni
    refine (Try.slices_Equal_string_lens va ua l.length vcap m.length ucap w hlen).mono ?_
    rintro e w' ⟨rfl, rfl⟩
    exact ⟨ret_bool (by rw [eq_comm]; exact decide_eq_false (fun e => hlen (by rw [e]))), Calm.refl _⟩
set_option maxRecDepth 100000 in
set_option maxHeartbeats 8000000 in
theorem rSame_any (a b : MsgS) (ka kb : Value) (w : World) (ha : StrsAt w ka a.keys) (hb : StrsAt w kb b.keys) (la : a.keys.length ≤ 1000000) (lb : b.keys.length ≤ 1000000) :
    Calls Try.prog 20 #[.agg (msgA a ka), .agg (msgA b kb)] w fun e w' => e = .returned (.bool (decide (a = b))) ∧ Calm w w' := by
  obtain ⟨r, hr⟩ : ∃ r, decide (a = b) = r := ⟨_, rfl⟩
  rw [hr]
  have Hr := box hr
  clear hr
  have He := box (fun W (hW : Calm w W) => Texts_any ka kb a.keys b.keys W (ha.calm hW) (hb.calm hW) (by omega) (by omega))
  clear ha hb la lb
  obtain ⟨ak, aq, ad, ar, af, an, at_, ag, ab, aks⟩ := a
  obtain ⟨bk, bq, bd, br, bf, bn, bt, bg, bb, bks⟩ := b
  go_enter Try.func20, Try.ntmps20
  go_wp2_with fail
  all_goals try (go_ret; exact ⟨ret_bool (differ Hr (fun e => by cases e; simp_all)), ((Calm.refl w).alloc _).alloc _⟩)
  refine (He.out _ (((Calm.refl w).alloc _).alloc _)).mono ?_
  rintro e w1 ⟨rfl, hc⟩
  have Hc := box ((((Calm.refl w).alloc _).alloc _).trans hc)
  clear hc
  have Hf := box (show decide (aks = bks) = r by
    rw [← Hr.out]
    have e6 : at_ = bt := ba_ext (by rw [← Lib.toList_data, ← Lib.toList_data]; assumption)
    have e7 : ag = bg := ba_ext (by rw [← Lib.toList_data, ← Lib.toList_data]; assumption)
    have e8 : ab = bb := ba_ext (by rw [← Lib.toList_data, ← Lib.toList_data]; assumption)
    subst e6 e7 e8
    subst_vars
    exact decide_eq_decide.2 ⟨fun e => by rw [e], fun e => by cases e; rfl⟩)
  go_wp2_with fail
  go_ret
  exact ⟨ret_bool Hf.out, Hc.out⟩
set_option maxRecDepth 100000 in
set_option maxHeartbeats 8000000 in
theorem Same_any (a b : MsgS) (ka kb : Value) (w : World) (ha : StrsAt w ka a.keys) (hb : StrsAt w kb b.keys) (la : a.keys.length ≤ 1000000) (lb : b.keys.length ≤ 1000000) :
    Calls Try.prog 27 #[.agg (msgA a ka), .agg (msgA b kb)] w fun e w' => e = .returned (.bool (decide (a = b))) ∧ Calm w w' := by
  obtain ⟨r, hr⟩ : ∃ r, decide (a = b) = r := ⟨_, rfl⟩
  rw [hr]
  have Hr := box hr
  clear hr
  have He := box (fun W (hW : Calm w W) => Equal_any ka kb a.keys b.keys W (ha.calm hW) (hb.calm hW) (by omega) (by omega))
  clear ha hb la lb
  obtain ⟨ak, aq, ad, ar, af, an, at_, ag, ab, aks⟩ := a
  obtain ⟨bk, bq, bd, br, bf, bn, bt, bg, bb, bks⟩ := b
  go_enter Try.func27, Try.ntmps27
  go_wp2_with fail
  all_goals try (go_ret; exact ⟨ret_bool (differ Hr (fun e => by cases e; simp_all)), ((Calm.refl w).alloc _).alloc _⟩)
  refine (He.out _ (((Calm.refl w).alloc _).alloc _)).mono ?_
  rintro e w1 ⟨rfl, hc⟩
  have Hc := box ((((Calm.refl w).alloc _).alloc _).trans hc)
  clear hc
  have Hf := box (show decide (aks = bks) = r by
    rw [← Hr.out]
    have e6 : at_ = bt := ba_ext (by rw [← Lib.toList_data, ← Lib.toList_data]; assumption)
    have e7 : ag = bg := ba_ext (by rw [← Lib.toList_data, ← Lib.toList_data]; assumption)
    have e8 : ab = bb := ba_ext (by rw [← Lib.toList_data, ← Lib.toList_data]; assumption)
    subst e6 e7 e8
    subst_vars
    exact decide_eq_decide.2 ⟨fun e => by rw [e], fun e => by cases e; rfl⟩)
  go_wp2_with fail
  go_ret
  exact ⟨ret_bool Hf.out, Hc.out⟩
end Go.Proofs.Ytofffmnkoelifaa.rc

/- Layer 6: which records may be, as the document says. -/
namespace Go.Proofs.Ytofffmnkoelifaa.rc
open Go.ChangeShapes Go.WideShapes Go.ChangeAt Go.RowKit Go.Shelf
open Go.Proofs.Ytofffmnkoelifaa.nm Go.Proofs.Ytofffmnkoelifaa.vs

theorem not_true_of {p : Prop} [Decidable p] {r : Bool} (hr : Box (decide p = r)) (h : ¬ p) : false = r := by rw [← hr.out, eq_comm]; exact decide_eq_false h
theorem true_of {p : Prop} [Decidable p] {r : Bool} (hr : Box (decide p = r)) (h : p) : true = r := by rw [← hr.out, eq_comm]; exact decide_eq_true h
theorem rnum_any (x : Int) (w : World) : Calls Try.prog 47 #[.int .i64 x] w fun e w' => e = .returned (.bool (numB x)) ∧ w = w' := by
  obtain ⟨r, hr⟩ : ∃ r, numB x = r := ⟨_, rfl⟩
  rw [hr]
  have Hr := box hr
  clear hr
  go_enter Try.func47, Try.ntmps47
  go_wp2_with fail
  all_goals
    go_ret
    exact ⟨ret_bool (by rw [← Hr.out, Bool.eq_iff_iff]; simp [numB] <;> omega), rfl⟩
/-- Keys ahead of one are unlike it, and one another. -/
theorem nodup_snoc (l : List ByteArray) (k : Nat) (hk : k < l.length) (h : ((l.take k).map (·.data.toList)).Nodup) (hn : ∀ j (hj : j < k), l[j] ≠ l[k]) : ((l.take (k + 1)).map (·.data.toList)).Nodup := by
  rw [List.take_succ_eq_append_getElem hk, List.map_append, List.nodup_append]
  refine ⟨h, by simp, fun a ha b hb => ?_⟩
  simp only [List.map_cons, List.map_nil, List.mem_singleton] at hb
  obtain ⟨x, hx, rfl⟩ := List.mem_map.1 ha
  obtain ⟨j, hj, rfl⟩ := List.mem_iff_getElem.1 hx
  rw [List.getElem_take] at hx ⊢
  rw [List.length_take] at hj
  subst hb
  intro e
  exact hn j (by omega) (ba_ext e)
theorem unlike_no (l : List ByteArray) (k j : Nat) (hk : k < l.length) (hj : j < k) (h : l[j] = l[k]) : ¬ unlikeB l = true := by
  unfold unlikeB
  rw [decide_eq_true_eq]
  intro hn
  have h1 : (l.map (·.data.toList))[j]'(by simp; omega) = (l.map (·.data.toList))[k]'(by simp; omega) := by simp [h]
  have := (List.getElem_inj hn).1 h1
  omega
set_option maxRecDepth 100000 in
set_option maxHeartbeats 8000000 in
theorem rCarries_any (m : MsgS) (kv : Value) (w : World) (hk : StrsAt w kv m.keys) (hs : ∀ s ∈ m.keys, s.size ≤ maxLen) (hz : m.topic.size ≤ maxLen ∧ m.tag.size ≤ maxLen) :
    Calls Try.prog 48 #[.agg (msgA m kv)] w fun e w' => e = .returned (.bool (decide (Carries m))) ∧ Calm w w' := by
  obtain ⟨r, hr⟩ : ∃ r, decide (Carries m) = r := ⟨_, rfl⟩
  rw [hr]
  have Hr := box hr
  clear hr
  obtain ⟨kd, q, du, rt, rf, bn, tp, tg, bd, ks⟩ := m
  simp only at hk hs hz
  obtain ⟨hz1, hz2⟩ := hz
  obtain ⟨a, cap, rfl, hcells⟩ := hk.uni
  have Hcells := box hcells
  have Hs := box hs
  obtain ⟨W1, hW1⟩ : ∃ W1, w.alloc (.cells (msgA ⟨kd, q, du, rt, rf, bn, tp, tg, bd, ks⟩ (.slice a ks.length cap)) 33) = W1 := ⟨_, rfl⟩
  have Hn := box (show W1.heap[w.heap.size]? = some (.cells (msgA ⟨kd, q, du, rt, rf, bn, tp, tg, bd, ks⟩ (.slice a ks.length cap)) 33 (0, 0)) by rw [← hW1]; exact heap_new w _)
  have H0 := box (show Calm w W1 by rw [← hW1]; exact (Calm.refl w).alloc _)
  have htop := box (rTopic_any tp W1 hz1)
  have htag := box (rTag_any tg W1 hz2)
  clear hk hs hz1 hz2 hcells
  have c6 := cell_of Hn.out 6
  have hlt := heap_lt Hn.out
  go_enter Try.func48, Try.ntmps48
  go_wp2_with fail
  clear hW1 c6 hlt
  refine htop.out.mono ?_
  cases htp : topicB tp
  · rintro e w1 ⟨rfl, rfl⟩
    go_wp2_with fail
    go_ret
    exact ⟨ret_bool (not_true_of Hr (fun h => by have := h.1; simp only at this; rw [htp] at this; cases this)), H0.out⟩
  · rintro e w1 ⟨rfl, rfl⟩
    have c0 := cell_of Hn.out 0
    have c1 := cell_of Hn.out 1
    have c2 := cell_of Hn.out 2
    have c3 := cell_of Hn.out 3
    have c4 := cell_of Hn.out 4
    have c5 := cell_of Hn.out 5
    have c6 := cell_of Hn.out 6
    have c7 := cell_of Hn.out 7
    have c8 := cell_of Hn.out 8
    have c9 := cell_of Hn.out 9
    have hlt := heap_lt Hn.out
    go_wp2_with fail
    refine htag.out.mono ?_
    cases htg : tagB tg
    · rintro e w1 ⟨rfl, rfl⟩
      go_wp2_with fail
      go_ret
      exact ⟨ret_bool (not_true_of Hr (fun h => by have := h.2.2.2.2.2.1; simp only at this; rw [htg] at this; cases this)), H0.out⟩
    · rintro e w1 ⟨rfl, rfl⟩
      go_wp2_with fail
      all_goals first | (go_ret; exact ⟨ret_bool (not_true_of Hr (fun h => by obtain ⟨_, h2, h3, h4, h5, _, h7, _, _, h10⟩ := h; simp only at h2 h3 h4 h5 h7 h10; omega)), H0.out⟩) | skip
      have Hfit := box (show ks.all nm.keyB = true → unlikeB ks = true → Carries ⟨kd, q, du, rt, rf, bn, tp, tg, bd, ks⟩ from fun h8 h9 => ⟨htp, by simp only; omega, by simp only; omega, by simp only; omega, by simp only; omega, htg, by simp only; omega, h8, h9, by simp only; omega⟩)
      clear c0 c1 c2 c3 c4 c5 c6 c7 c8 c9 hlt htop htag
      go_loopw [3] (fun i wr => ∃ j : Nat, j ≤ ks.length ∧ i = .int .i64 j ∧ Calm W1 wr ∧ (ks.take j).all nm.keyB = true ∧ ((ks.take j).map (·.data.toList)).Nodup) (fun i _ => ks.length - (intOf i).toNat)
      case atStart => exact ⟨0, Nat.zero_le _, rfl, Calm.refl _, rfl, List.nodup_nil⟩
      case round =>
        obtain ⟨j, hj, rfl, hcal, hall, hnd⟩ := hrel
        have HC := box hcal
        have HA := box hall
        have HN := box hnd
        clear hcal hall hnd
        have J := box (heap_calm HC.out Hn.out)
        have c9 := cell_of J.out 9
        have hlt0 := heap_lt J.out
        obtain ⟨wo, hwo⟩ : ∃ wo : World, wo = wr := ⟨_, rfl⟩
        subst hwo
        by_cases hlt : j < ks.length
        · obtain ⟨kb, koff, rfl, hkb, hkc⟩ := Hcells.out j hlt
          have kc := ((H0.out.trans HC.out).cell (p := ⟨kb, koff + j, none⟩) hkb).trans hkc
          have klt := Nat.lt_of_lt_of_le hkb (H0.out.trans HC.out).size
          rw [List.getD_eq_getElem?_getD, List.getElem?_eq_getElem hlt] at kc
          simp only [Option.getD_some] at kc
          have hsj := box (Hs.out _ (List.getElem_mem hlt))
          have HAn := box (show nm.keyB ks[j] = true → (ks.take (j + 1)).all nm.keyB = true from fun h => by
            rw [List.take_succ_eq_append_getElem hlt, List.all_append, HA.out]; simp [h])
          have HAx := box (show nm.keyB ks[j] = false → ¬ Carries ⟨kd, q, du, rt, rf, bn, tp, tg, bd, ks⟩ from fun h hc => by
            have h8 := List.all_eq_true.1 hc.2.2.2.2.2.2.2.1 ks[j] (List.getElem_mem hlt)
            rw [h] at h8; cases h8)
          have HNn := box (nodup_snoc ks j hlt HN.out)
          have HNx := box (show ∀ x (hx : x < j), ks[x] = ks[j] → ¬ Carries ⟨kd, q, du, rt, rf, bn, tp, tg, bd, ks⟩ from fun x hx h hc => unlike_no ks j x hlt hx h hc.2.2.2.2.2.2.2.2.1)
          obtain ⟨s, hs⟩ : ∃ s, ks[j] = s := ⟨_, rfl⟩
          rw [hs] at kc hsj HAn HAx HNn HNx
          clear hs hkc
          have hkey := box (rKey_any s wo hsj.out)
          go_wp2_with fail
          refine hkey.out.mono ?_
          cases hks : nm.keyB s
          · rintro e w1 ⟨rfl, rfl⟩
            go_wp2_with fail
            go_ret
            exact ⟨ret_bool (not_true_of Hr (HAx.out hks)), H0.out.trans HC.out⟩
          · rintro e w1 ⟨rfl, rfl⟩
            have HAn := box (HAn.out hks)
            go_wp2_with fail
            go_loopw [4] (fun i wr => ∃ k : Nat, k ≤ j ∧ i = .int .i64 k ∧ Calm wo wr ∧ ∀ x (hx : x < k) (hx2 : x < ks.length), ks[x] ≠ s) (fun i _ => j - (intOf i).toNat)
            case atStart => exact ⟨0, Nat.zero_le _, rfl, Calm.refl _, fun x hx => absurd hx (Nat.not_lt_zero _)⟩
            case round =>
              obtain ⟨k, hk, rfl, hcal, hne⟩ := hrel
              have HC2 := box hcal
              have HE := box hne
              clear hcal hne c9 hlt0
              have J2 := box (heap_calm HC2.out J.out)
              have c9 := cell_of J2.out 9
              have hlt0 := heap_lt J2.out
              by_cases hkj : k < j
              · obtain ⟨kb2, koff2, he, hkb2, hkc2⟩ := Hcells.out k (by omega)
                cases he
                have kd1 := (HC2.out.cell (p := ⟨kb, koff + j, none⟩) klt).trans kc
                have kd2 := ((H0.out.trans (HC.out.trans HC2.out)).cell (p := ⟨kb, koff + k, none⟩) hkb2).trans hkc2
                have klt2 := Nat.lt_of_lt_of_le klt HC2.out.size
                rw [List.getD_eq_getElem?_getD, List.getElem?_eq_getElem (by omega : k < ks.length)] at kd2
                simp only [Option.getD_some] at kd2
                have HNk := box (HNx.out k hkj)
                have HEk := box (show ks[k]'(by omega) ≠ s → ∀ x (hx : x < k + 1) (hx2 : x < ks.length), ks[x] ≠ s from fun h x hx hx2 => by
                  by_cases e : x = k
                  · subst e; exact h
                  · exact HE.out x (by omega) hx2)
                obtain ⟨u, hu⟩ : ∃ u, ks[k]'(by omega) = u := ⟨_, rfl⟩
                rw [hu] at kd2 HNk HEk
                clear hu hkc2 kc klt
                by_cases hus : u = s
                · subst hus
                  go_wp2_with (first | go_quiet (fail) | fail)
                  go_wp2_with fail
                  go_ret
                  exact ⟨ret_bool (not_true_of Hr (HNk.out (by first | rfl | trivial))), (H0.out.trans (HC.out.trans HC2.out)).drewN _⟩
                · have hb1 : (u.toList == s.toList) = false := beq_eq_false_iff_ne.2 (fun e => hus (ba_ext (by rw [← Lib.toList_data, ← Lib.toList_data]; exact e)))
                  have HEk := box (HEk.out hus)
                  clear hus
                  go_wp2_with (first | go_quiet (fail) | fail)
                  go_wp2_with fail
                  go_roundw
                  case rel => exact ⟨k + 1, by omega, by go_num, HC2.out.drewN _, HEk.out⟩
                  case measure => simp [intOf]; omega
              · obtain rfl : k = j := by omega
                go_wp2_with fail
                go_roundw
                case rel => exact ⟨k + 1, by omega, by go_num, HC.out.trans HC2.out, HAn.out, HNn.out (fun x hx => HE.out x hx (by omega))⟩
                case measure => simp [intOf]; omega
        · obtain rfl : j = ks.length := by omega
          have hfin := box (Hfit.out (by have := HA.out; rwa [List.take_length] at this) (by have := HN.out; rw [List.take_length] at this; exact decide_eq_true this))
          go_wp2_with fail
          go_ret
          exact ⟨ret_bool (true_of Hr hfin.out), H0.out.trans HC.out⟩
/-- May it be? (Any kind.) -/
def RightP (m : MsgS) : Prop := numsB m = true ∧
  ((m.kind = 1 ∧ Carries m ∧ m.due = 0 ∧ m.ref = 0) ∨ ((m.kind = 2 ∨ m.kind = 3) ∧ Carries m) ∨
  ((m.queue = 0 ∧ m.retry = 0 ∧ m.due = 0 ∧ m.topic.size = 0 ∧ m.tag.size = 0 ∧ m.keys.length = 0) ∧
    ((m.kind = 4 ∧ m.body.size = 0) ∨ (m.kind = 0 ∧ m.ref = 0 ∧ m.born = 0 ∧ m.body.size ≤ 1024 ∧ m.body.data.toList.all (· == 0) = true))))
instance (m : MsgS) : Decidable (RightP m) := by unfold RightP; exact inferInstance
theorem RightP.of3 {m : MsgS} (h3 : m.kind = 1 ∨ m.kind = 2 ∨ m.kind = 3) : RightP m ↔ Right3 m := by
  unfold RightP Right3
  constructor
  · rintro ⟨h1, ⟨hk, hc, hd⟩ | ⟨hk, hc⟩ | ⟨_, ⟨hk, _⟩ | ⟨hk, _⟩⟩⟩
    · exact ⟨h1, hc, fun _ => hd⟩
    · exact ⟨h1, hc, fun h => by omega⟩
    · omega
    · omega
  · rintro ⟨h1, hc, hd⟩
    rcases h3 with h | h | h
    · exact ⟨h1, .inl ⟨h, hc, hd h⟩⟩
    · exact ⟨h1, .inr (.inl ⟨.inl h, hc⟩)⟩
    · exact ⟨h1, .inr (.inl ⟨.inr h, hc⟩)⟩
theorem no_bytes {b : ByteArray} (h : b.size = 0) : b.toList = [] := by rw [Lib.toList_data]; exact List.eq_nil_of_length_eq_zero (by rw [size_toList]; exact h)
theorem bytes_no {b : ByteArray} (h : b.toList = []) : b.size = 0 := by rw [← size_toList, ← Lib.toList_data, h]; rfl
theorem ne_of_beq_false {a b : Int} (h : (a == b) = false) : a ≠ b := beq_eq_false_iff_ne.1 h
set_option maxRecDepth 100000 in
set_option maxHeartbeats 8000000 in
theorem rRight_any (m : MsgS) (kv : Value) (w : World) (hk : StrsAt w kv m.keys) (hs : ∀ s ∈ m.keys, s.size ≤ maxLen) (hz : m.topic.size ≤ maxLen ∧ m.tag.size ≤ maxLen ∧ m.body.size ≤ maxLen) :
    Calls Try.prog 21 #[.agg (msgA m kv)] w fun e w' => e = .returned (.bool (decide (RightP m))) ∧ Calm w w' := by
  obtain ⟨r, hr⟩ : ∃ r, decide (RightP m) = r := ⟨_, rfl⟩
  rw [hr]
  have Hr := box hr
  clear hr
  have hcar := box (fun W (hW : Calm w W) => rCarries_any m kv W (hk.calm hW) hs ⟨hz.1, hz.2.1⟩)
  obtain ⟨kd, q, du, rt, rf, bn, tp, tg, bd, ks⟩ := m
  simp only at hk hs hz
  obtain ⟨hz1, hz2, hz3⟩ := hz
  obtain ⟨a, cap, rfl, _⟩ := hk.uni
  obtain ⟨W1, hW1⟩ : ∃ W1, w.alloc (.cells (msgA ⟨kd, q, du, rt, rf, bn, tp, tg, bd, ks⟩ (.slice a ks.length cap)) 33) = W1 := ⟨_, rfl⟩
  have Hn := box (show W1.heap[w.heap.size]? = some (.cells (msgA ⟨kd, q, du, rt, rf, bn, tp, tg, bd, ks⟩ (.slice a ks.length cap)) 33 (0, 0)) by rw [← hW1]; exact heap_new w _)
  have H0 := box (show Calm w W1 by rw [← hW1]; exact (Calm.refl w).alloc _)
  clear hk hs
  unfold maxLen at hz1 hz2 hz3
  have c0 := cell_of Hn.out 0
  have c1 := cell_of Hn.out 1
  have c2 := cell_of Hn.out 2
  have c3 := cell_of Hn.out 3
  have c4 := cell_of Hn.out 4
  have c5 := cell_of Hn.out 5
  have c6 := cell_of Hn.out 6
  have c7 := cell_of Hn.out 7
  have c8 := cell_of Hn.out 8
  have c9 := cell_of Hn.out 9
  have hlt := heap_lt Hn.out
  go_enter Try.func21, Try.ntmps21
  go_wp2_with fail
  clear hW1
  refine (rnum_any du _).mono ?_
  cases h1 : numB du
  · rintro e w1 ⟨rfl, rfl⟩
    go_wp2_with fail
    go_ret
    exact ⟨ret_bool (not_true_of Hr (fun h => by have := h.1; unfold numsB at this; simp only at this; rw [h1] at this; simp at this)), H0.out⟩
  rintro e w1 ⟨rfl, rfl⟩
  go_wp2_with fail
  refine (rnum_any rf _).mono ?_
  cases h2 : numB rf
  · rintro e w1 ⟨rfl, rfl⟩
    go_wp2_with fail
    go_ret
    exact ⟨ret_bool (not_true_of Hr (fun h => by have := h.1; unfold numsB at this; simp only at this; rw [h1, h2] at this; simp at this)), H0.out⟩
  rintro e w1 ⟨rfl, rfl⟩
  go_wp2_with fail
  refine (rnum_any bn _).mono ?_
  cases h3 : numB bn
  · rintro e w1 ⟨rfl, rfl⟩
    go_wp2_with fail
    go_ret
    exact ⟨ret_bool (not_true_of Hr (fun h => by have := h.1; unfold numsB at this; simp only at this; rw [h1, h2, h3] at this; simp at this)), H0.out⟩
  rintro e w1 ⟨rfl, rfl⟩
  have Hnums := box (show numsB ⟨kd, q, du, rt, rf, bn, tp, tg, bd, ks⟩ = true by unfold numsB; simp only; rw [h1, h2, h3]; rfl)
  clear h1 h2 h3
  by_cases hk1 : kd = 1
  · subst hk1
    go_wp2_with fail
    refine (hcar.out _ H0.out).mono ?_
    by_cases hcr : Carries ⟨1, q, du, rt, rf, bn, tp, tg, bd, ks⟩
    · rw [decide_eq_true hcr]
      rintro e w3 ⟨rfl, hc3⟩
      have J3 := box (heap_calm hc3 Hn.out)
      clear c0 c1 c2 c3 c4 c5 c6 c7 c8 c9 hlt
      have d2 := cell_of J3.out 2
      have d4 := cell_of J3.out 4
      have hlt := heap_lt J3.out
      have Hcr := box hcr
      have C3 := box (H0.out.trans hc3)
      clear hcr hc3
      by_cases hd : du = 0
      · subst hd
        by_cases hf : rf = 0
        · subst hf
          go_wp2_with fail
          go_ret
          exact ⟨ret_bool (true_of Hr ⟨Hnums.out, .inl ⟨rfl, Hcr.out, rfl, rfl⟩⟩), C3.out⟩
        · have hf' : (rf == 0) = false := beq_eq_false_iff_ne.2 hf
          go_wp2_with fail
          go_ret
          exact ⟨ret_bool (not_true_of Hr (fun h => by obtain ⟨_, ⟨_, _, _, h⟩ | ⟨h, _⟩ | ⟨_, ⟨h, _⟩ | ⟨h, _⟩⟩⟩ := h <;> simp only at h <;> omega)), C3.out⟩
      · have hd' : (du == 0) = false := beq_eq_false_iff_ne.2 hd
        go_wp2_with fail
        go_ret
        exact ⟨ret_bool (not_true_of Hr (fun h => by obtain ⟨_, ⟨_, _, h, _⟩ | ⟨h, _⟩ | ⟨_, ⟨h, _⟩ | ⟨h, _⟩⟩⟩ := h <;> simp only at h <;> omega)), C3.out⟩
    · rw [decide_eq_false hcr]
      rintro e w3 ⟨rfl, hc3⟩
      have C3 := box (H0.out.trans hc3)
      clear hc3
      go_wp2_with fail
      go_ret
      exact ⟨ret_bool (not_true_of Hr (fun h => by
        obtain ⟨_, ⟨_, h, _⟩ | ⟨_, h⟩ | ⟨_, ⟨h, _⟩ | ⟨h, _⟩⟩⟩ := h
        · exact hcr h
        · exact hcr h
        · simp only at h; omega
        · simp only at h; omega)), C3.out⟩
  have e1 : (kd == 1) = false := beq_eq_false_iff_ne.2 hk1
  by_cases hk2 : kd = 2
  · subst hk2
    have hiff : decide (Carries ⟨2, q, du, rt, rf, bn, tp, tg, bd, ks⟩) = r := by
      rw [← Hr.out]
      exact decide_eq_decide.2 ⟨fun h => ⟨Hnums.out, .inr (.inl ⟨.inl rfl, h⟩)⟩, fun h => by
        obtain ⟨_, ⟨_, h, _⟩ | ⟨_, h⟩ | ⟨_, ⟨h, _⟩ | ⟨h, _⟩⟩⟩ := h
        · exact h
        · exact h
        · simp only at h; omega
        · simp only at h; omega⟩
    rw [hiff] at hcar
    clear hiff
    go_wp2_with fail
    refine (hcar.out _ H0.out).mono ?_
    rintro e w3 ⟨rfl, hc3⟩
    have C3 := box (H0.out.trans hc3)
    clear hc3
    go_wp2_with fail
    go_ret
    exact ⟨rfl, C3.out⟩
  have e2 : (kd == 2) = false := beq_eq_false_iff_ne.2 hk2
  by_cases hk3 : kd = 3
  · subst hk3
    have hiff : decide (Carries ⟨3, q, du, rt, rf, bn, tp, tg, bd, ks⟩) = r := by
      rw [← Hr.out]
      exact decide_eq_decide.2 ⟨fun h => ⟨Hnums.out, .inr (.inl ⟨.inr rfl, h⟩)⟩, fun h => by
        obtain ⟨_, ⟨_, h, _⟩ | ⟨_, h⟩ | ⟨_, ⟨h, _⟩ | ⟨h, _⟩⟩⟩ := h
        · exact h
        · exact h
        · simp only at h; omega
        · simp only at h; omega⟩
    rw [hiff] at hcar
    clear hiff
    go_wp2_with fail
    refine (hcar.out _ H0.out).mono ?_
    rintro e w3 ⟨rfl, hc3⟩
    have C3 := box (H0.out.trans hc3)
    clear hc3
    go_wp2_with fail
    go_ret
    exact ⟨rfl, C3.out⟩
  have e3 : (kd == 3) = false := beq_eq_false_iff_ne.2 hk3
  have Hno := box (show ∀ h : RightP ⟨kd, q, du, rt, rf, bn, tp, tg, bd, ks⟩, (q = 0 ∧ rt = 0 ∧ du = 0 ∧ tp.size = 0 ∧ tg.size = 0 ∧ ks.length = 0) ∧ ((kd = 4 ∧ bd.size = 0) ∨ (kd = 0 ∧ rf = 0 ∧ bn = 0 ∧ bd.size ≤ 1024 ∧ bd.data.toList.all (· == 0) = true)) from fun h => by
    obtain ⟨_, ⟨h, _⟩ | ⟨h, _⟩ | h⟩ := h
    · exact absurd h hk1
    · exact absurd h (by simp only; omega)
    · exact h)
  have Hyes := box (show (q = 0 ∧ rt = 0 ∧ du = 0 ∧ tp.size = 0 ∧ tg.size = 0 ∧ ks.length = 0) → ((kd = 4 ∧ bd.size = 0) ∨ (kd = 0 ∧ rf = 0 ∧ bn = 0 ∧ bd.size ≤ 1024 ∧ bd.data.toList.all (· == 0) = true)) → RightP ⟨kd, q, du, rt, rf, bn, tp, tg, bd, ks⟩ from fun h1 h2 => ⟨Hnums.out, .inr (.inr ⟨h1, h2⟩)⟩)
  clear hcar
  go_wp2_with fail
  all_goals first
    | (go_ret
       exact ⟨ret_bool (not_true_of Hr (fun h => by
        obtain ⟨⟨a1, a2, a3, a4, a5, a6⟩, _⟩ := Hno.out h
        first
          | omega
          | exact absurd (no_bytes a4) (by assumption)
          | exact absurd (no_bytes a5) (by assumption)
          | (have hh : ((ks.length : Int) != 0) = true := by assumption
             rw [a6] at hh; cases hh))), H0.out⟩)
    | skip
  · have Hflat := box (show (q = 0 ∧ rt = 0 ∧ du = 0 ∧ tp.size = 0 ∧ tg.size = 0 ∧ ks.length = 0) from ⟨by assumption, by assumption, by assumption, bytes_no (by assumption), bytes_no (by assumption), by
      have hh : ((ks.length : Int) != 0) = false := by assumption
      rw [bne, Bool.not_eq_false'] at hh
      have := eq_of_beq hh
      omega⟩)
    have hk4 : kd = 4 := eq_of_beq (by assumption)
    go_ret
    refine ⟨ret_bool ?_, H0.out⟩
    cases hb : bd.toList.isEmpty
    · exact not_true_of Hr (fun h => by
        obtain ⟨_, ⟨_, h5⟩ | ⟨h5, _⟩⟩ := Hno.out h
        · rw [no_bytes h5] at hb; cases hb
        · omega)
    · exact true_of Hr (Hyes.out Hflat.out (.inl ⟨hk4, bytes_no (List.isEmpty_iff.1 hb)⟩))
  · have Hflat := box (show (q = 0 ∧ rt = 0 ∧ du = 0 ∧ tp.size = 0 ∧ tg.size = 0 ∧ ks.length = 0) from ⟨by assumption, by assumption, by assumption, bytes_no (by assumption), bytes_no (by assumption), by
      have hh : ((ks.length : Int) != 0) = false := by assumption
      rw [bne, Bool.not_eq_false'] at hh
      have := eq_of_beq hh
      omega⟩)
    have Hk4 := box (show kd ≠ 4 from ne_of_beq_false (by assumption))
    go_loopw [3] (fun i wr => wr = W1 ∧ ∃ k : Nat, k ≤ bd.size ∧ i = .int .i64 k ∧ (bd.data.toList.take k).all (· == 0) = true) (fun i _ => bd.size - (intOf i).toNat)
    case atStart => exact ⟨by first | rfl | trivial, 0, Nat.zero_le _, rfl, rfl⟩
    case round =>
      obtain ⟨rfl, k, hk, rfl, hall⟩ := hrel
      have Hall := box hall
      clear hall
      by_cases hlt2 : k < bd.size
      · have hsn := box (all_snoc bd k hlt2 (· == 0))
        have hx := box (all_no bd k hlt2 (· == 0))
        by_cases hb : bd[k] = 0
        · have hb1 : (bd[k].toNat : Int) = 0 := by rw [hb]; rfl
          have hn := box (show (bd.data.toList.take (k + 1)).all (· == 0) = true by rw [hsn.out, Hall.out, hb]; rfl)
          go_wp2_with fail
          go_roundw
          case rel => exact ⟨by first | rfl | trivial, k + 1, by omega, by go_num, hn.out⟩
          case measure => simp [intOf]; omega
        · have hb1 : ¬ (bd[k].toNat : Int) = 0 := fun h => hb (UInt8.toNat_inj.1 (by have : bd[k].toNat = 0 := by omega
                                                                                     rw [this]; rfl))
          have hno := box (hx.out (by simp [hb]))
          go_wp2_with fail
          go_ret
          exact ⟨ret_bool (not_true_of Hr (fun h => by
            obtain ⟨_, ⟨h5, _⟩ | ⟨_, _, _, _, h5⟩⟩ := Hno.out h
            · exact Hk4.out h5
            · rw [hno.out] at h5; cases h5)), H0.out⟩
      · obtain rfl : k = bd.size := by omega
        have hz := box (show bd.data.toList.all (· == 0) = true by have := Hall.out; rwa [all_take bd bd.size (Nat.le_refl _)] at this)
        have hend : r = (decide (kd = 0) && decide (rf = 0) && decide (bn = 0) && decide ((bd.size : Int) ≤ 1024)) := by
          rw [← Hr.out, Bool.eq_iff_iff]
          simp only [Bool.and_eq_true, decide_eq_true_eq]
          constructor
          · intro h
            obtain ⟨_, ⟨h5, _⟩ | ⟨h5, h6, h7, h8, _⟩⟩ := Hno.out h
            · exact absurd h5 Hk4.out
            · exact ⟨⟨⟨h5, h6⟩, h7⟩, by omega⟩
          · rintro ⟨⟨⟨h5, h6⟩, h7⟩, h8⟩
            exact Hyes.out Hflat.out (.inr ⟨h5, h6, h7, by omega, hz.out⟩)
        have Hend := box hend
        clear hend
        go_wp2_with fail
        all_goals
          go_ret
          exact ⟨ret_bool (by rw [Hend.out]; simp_all), H0.out⟩
end Go.Proofs.Ytofffmnkoelifaa.rc
