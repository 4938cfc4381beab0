/- strings.Builder: copyCheck, WriteString. -/
import Derived.Test.YtafdfmdcnniccaaGreatRows
import Derived.WalkKit
import Derived.ProofKit
import Derived.OpenShut
import Derived.Handy
import Derived.Deep.LoopGhost
import Derived.Lib.Hide
import Derived.Lib.Strings
import Derived.SizedLaws
import Derived.Maps.Own
import Derived.Maps.OwnOps
import Derived.Maps.OwnSet
import Derived.Maps.RangeWalk
import Derived.Deep.QuietTactic
import Derived.BigQuiet
import Derived.Deep.RegionHeld3
import Derived.Lib.ConvBytes
import Derived.Lib.AppendZeros
import Derived.Lib.AppendZerosOnto
import Derived.Lib.LazyBuf
import Derived.Shelf.Abstract
import Derived.LaidEql
import Derived.Lib.SliceRun
import Derived.StillTailTactics
import Derived.Deep.Slices
import Derived.Outline
import Derived.Laws.Cover1
import Derived.Deep.RegionLaw
import Derived.Deep.DeepCutAuto
import Derived.Deep.CutBlock
import Derived.Shelf.SlicesE.Clone
import Derived.Ground.SlgnProg
import Derived.Test.YtafdfmdcnniccaaGreatProg
import Derived.Shelf.Strings.Builder1
import Derived.Shelf.Small.Bits
import Derived.Shelf.Small.Wraps
import Derived.Shelf.Strings.BuilderF
import Derived.Shelf.Strings.BuilderK
import Derived.Shelf.Strconv.Itoa0
import Derived.Shelf.Sort.Plain
import Derived.Shelf.GgClosure.StringsIndexFunc
import Derived.Ground.GgwProg
import Derived.Shelf.GgClosure.StringsIndexFuncTop
import Derived.Shelf.GgClosure.StringsRunes
import Derived.Shelf.Strings.Prefix
import Derived.Shelf.Strings.BuilderCap
import Derived.Ground.Names2Prog
import Derived.Shelf.Slices.SearchI
import Derived.Shelf.Slices.In.SortNone
import Derived.Ground.SlgfProg
import Derived.Shelf.SlicesE.IndexFunc
import Derived.Shelf.SlicesE.DeleteFunc
import Derived.Lib.DecodeN
import Derived.Lib.Overlaps
import Derived.Laws.CopyOwn
import Derived.Laws.MakeOwn
import Derived.Lib.Builder
import Derived.Lib.AppendStr
import Derived.Test.YtafdfmdcnniccaaGreatPk20
namespace Go.Proofs.YtafdfmdcnniccaaGreat.oc
open Go.ChangeShapes Go.WideShapes Go.ChangeAt Go.RowKit

abbrev BT : TypeId := 133
theorem sizeB : (Tryz.prog.info? BT).map (·.size) = some 2 := by kernel_rfl
theorem liesB : liesAt Tryz.prog Tryz.prog.depth BT (2 / Tryz.prog.cellsOf BT) 0 BT 1 = true := by kernel_rfl
theorem infoU8 : (Tryz.prog.info? 5).map (fun i => (i.zero, i.size, i.bytes)) = some (some (.int .u8 0), 1, 1) := by kernel_rfl
set_option maxHeartbeats 1000000 in
set_option maxRecDepth 100000 in
theorem copyCheck_any (B b : Nat) (bs : List Value) (w : World) (h : Lib.IsBuilder BT 5 B b bs w) :
    Calls Tryz.prog 107 #[.pointer (some ⟨b, 0, none⟩)] w fun e w' => e = .returned (.tuple #[]) ∧ Lib.BuilderAt BT 5 B b (.pointer (some ⟨b, 0, none⟩)) bs w' ∧ Below B w w' := by
  obtain ⟨j, hj, hjs⟩ := Option.map_eq_some_iff.1 sizeB
  rcases h with h | h
  · have H := box h
    have h0 := h.cell0
    have hfz := h.frozen0
    have hsh := box h.shape
    clear h
    go_enter Tryz.func107, Tryz.ntmps107
    go_wp2
    rw [Lib.run_to_unsafe w ⟨b, 0, none⟩ Tryz.underlying131 Tryz.underlying158 hj (by rw [hjs]; decide) hsh.out (Nat.zero_lt_succ 1)]
    simp only [Result.andThen]
    rw [Oper.upon_value]
    go_wp2
    rw [run_callFunc_extern Tryz.func116 (by kernel_rfl) (by kernel_rfl) (by kernel_rfl) (e := Extern.AbiNoEscape.same) (by kernel_rfl)]
    rw [Lib.run_noEscape]
    simp only [Result.andThen]
    rw [Oper.upon_value]
    go_wp2
    rw [Lib.run_from_unsafe w ⟨b, 0, none⟩ Tryz.underlying158 Tryz.underlying131 hj hsh.out liesB]
    simp only [Result.andThen]
    rw [Oper.upon_value]
    go_wp2
    go_end0
    exact ⟨rfl, H.out.used _, (Below.refl B w).setCell (p := ⟨b, 0, none⟩) H.out.1 _⟩
  · have H := box h
    have h0 := h.cell0
    clear h
    go_enter Tryz.func107, Tryz.ntmps107
    go_wp2
    rw [Lib.run_neq_ptr_same w _ Tryz.underlying131 hj]
    go_wp2
    go_end0
    exact ⟨rfl, H.out, Below.refl B _⟩

set_option maxHeartbeats 2000000 in
set_option maxRecDepth 100000 in
theorem WriteString_any (B b : Nat) (bs : List Value) (s : ByteArray) (w : World) (h : Lib.IsBuilder BT 5 B b bs w) (hlen : bs.length + s.size ≤ 140737488355328) (hBw : B ≤ w.heap.size) :
    Calls Tryz.prog 86 #[.pointer (some ⟨b, 0, none⟩), .string s] w fun e w' => e = .returned (.tuple #[.int .i64 s.size, .nilIface]) ∧ Lib.BuilderAt BT 5 B b (.pointer (some ⟨b, 0, none⟩)) (bs ++ Lib.strCells s) w' ∧ Below B w w' := by
  obtain ⟨i0, hi, hz0, hz1, hz2⟩ := info_parts infoU8
  have hcc := box (copyCheck_any B b bs w h)
  clear h
  go_enter Tryz.func86, Tryz.ntmps86
  go_wp2_with fail
  refine hcc.out.mono ?_
  rintro e w1 ⟨rfl, h1, hb1⟩
  obtain ⟨hB, v, hbk, hown, hne⟩ := h1
  have c0 : w1.cell? ⟨b, 0, none⟩ = some (.pointer (some ⟨b, 0, none⟩)) := cell_of hbk 0
  have c1 : w1.cell? ⟨b, 1, none⟩ = some v := cell_of hbk 1
  go_wp2_with (at_builtin; refine Lib.wpList_append_own_string _ rfl _ _ 102 9 rfl B 5 i0 Tryz.underlying102 Tryz.underlying9 hi hz0 hz1 hz2 _ _ _ rfl hown s rfl ?c3 ?c4 ?c5 ?_)
  case c3 => unfold maxLen; omega
  case c4 => omega
  case c5 => have := hb1.size; omega
  intro v' w2 hown' hgrow _
  have hlt : b < w1.heap.size := heap_lt hbk
  have hb2 : w2.heap[b]? = some (.cells #[.pointer (some ⟨b, 0, none⟩), v] BT (0, 0)) := by
    rw [hgrow.block b hlt (fun e => hne e.symm)]
    exact hbk
  have d0 : w2.cell? ⟨b, 0, none⟩ = some (.pointer (some ⟨b, 0, none⟩)) := cell_of hb2 0
  have d1 : w2.cell? ⟨b, 1, none⟩ = some v := cell_of hb2 1
  have f1 : w2.frozen? ⟨b, 1, none⟩ = false := free_of hb2 1
  obtain ⟨ao, n', cap, rfl⟩ : ∃ ao n' cap, v' = .slice ao n' cap := by
    rcases hown'.2 with ⟨hv, _⟩ | ⟨g, cap, cur, hv, _⟩
    · exact ⟨_, _, _, hv⟩
    · exact ⟨_, _, _, hv⟩
  go_wp2
  go_ret2
  refine ⟨rfl, ?_, ?_⟩
  · exact Lib.BuilderAt.put (T := BT) (e := 5) hB hb2 (bs' := bs ++ Lib.strCells s) (by simpa [Lib.strCells_length] using hown') (by decide)
  · exact (hb1.grown hgrow (by have := hb1.size; omega) (fun k hk => (hown.lt k hk).1)).setCell (p := ⟨b, 1, none⟩) hB _
end Go.Proofs.YtafdfmdcnniccaaGreat.oc

/- Layer 1: numbers' bytes. -/
namespace Go.Proofs.YtafdfmdcnniccaaGreat.oc
open Go.ChangeShapes Go.WideShapes Go.ChangeAt Go.RowKit

def fitsN (n : Nat) (x : Int) : Bool := decide (0 ≤ x) && decide (x < 256 ^ n)
def lowN (n : Nat) (l : List Int) : List UInt8 := l.flatMap fun x => low n x.toNat
/-- Numbers' bytes, and the error's number. -/
def numB (n : Int) (l : List Int) : ByteArray × Int :=
  if n < 1 ∨ 7 < n then (⟨#[]⟩, 1) else if l.all (fitsN n.toNat) then (⟨(lowN n.toNat l).toArray⟩, 0) else (⟨#[]⟩, 2)
theorem fits_div (m : Nat) (h1 : 1 ≤ m) (h7 : m ≤ 7) (x : Int) : fitsN m x = (decide (0 ≤ x) && !(x / 2 ^ (8 * m) != 0)) := by
  have hc : m = 1 ∨ m = 2 ∨ m = 3 ∨ m = 4 ∨ m = 5 ∨ m = 6 ∨ m = 7 := by omega
  unfold fitsN
  rw [Bool.eq_iff_iff]
  rcases hc with rfl | rfl | rfl | rfl | rfl | rfl | rfl <;> simp <;> omega
theorem low_size (n x : Nat) : (⟨(low n x).toArray⟩ : ByteArray).size = n := by show (low n x).toArray.size = n; simp [low_length]
theorem lowN_length (n : Nat) (l : List Int) : (lowN n l).length = l.length * n := by
  unfold lowN
  induction l with
  | nil => simp
  | cons x l ih => rw [List.flatMap_cons, List.length_append, low_length, ih, List.length_cons, Nat.succ_mul, Nat.add_comm]
theorem lowN_snoc (n : Nat) (l : List Int) (k : Nat) (hk : k < l.length) : lowN n (l.take (k + 1)) = lowN n (l.take k) ++ low n l[k].toNat := by
  unfold lowN; rw [List.take_succ_eq_append_getElem hk, List.flatMap_append]; simp
theorem _root_.Go.Lib.BuilderAt.calm' {T e : TypeId} {B b : Nat} {p : Value} {bs : List Value} {w w' : World} (h : Lib.BuilderAt T e B b p bs w) (hc : Calm w w') : Lib.BuilderAt T e B b p bs w' := by
  obtain ⟨hB, v, hb, hrow, hne⟩ := h
  refine ⟨hB, v, heap_calm hc hb, ?_, hne⟩
  obtain ⟨h1, h2⟩ := hrow
  refine ⟨h1, ?_⟩
  rcases h2 with h2 | ⟨g, cap, cur, e1, r1, r2, r3⟩
  · exact .inl h2
  · exact .inr ⟨g, cap, cur, e1, r1, heap_calm hc r2, r3⟩
theorem _root_.Go.Lib.IsBuilder.calm' {T e : TypeId} {B b : Nat} {bs : List Value} {w w' : World} (h : Lib.IsBuilder T e B b bs w) (hc : Calm w w') : Lib.IsBuilder T e B b bs w' := h.imp (·.calm' hc) (·.calm' hc)
/-- Numbers lie under a slice's address. -/
def IntsAt (w : World) (a : Option Addr) (l : List Int) : Prop := ∀ k (hk : k < l.length), ∃ b off, a = some ⟨b, off, none⟩ ∧ b < w.heap.size ∧ w.cell? ⟨b, off + k, none⟩ = some (.int .i64 l[k])
theorem IntsAt.below {w w' : World} {a : Option Addr} {l : List Int} {B : Nat} (h : IntsAt w a l) (hB : w.heap.size = B) (hc : Below B w w') : IntsAt w' a l := fun k hk => by
  obtain ⟨b, off, e, hb, hcell⟩ := h k hk
  exact ⟨b, off, e, Nat.lt_of_lt_of_le hb (by have := hc.size; omega), by rw [hc.cell (p := ⟨b, off + k, none⟩) (by show b < B; omega)]; exact hcell⟩

set_option maxRecDepth 100000 in
set_option maxHeartbeats 4000000 in
theorem Num_any (n : Int) (a : Option Addr) (cap : Nat) (l : List Int) (w : World) (h : IntsAt w a l) (hl : l.length ≤ 1000000) (hi : ∀ x ∈ l, -9223372036854775808 ≤ x ∧ x ≤ 9223372036854775807) :
    Calls Tryz.prog 57 #[.int .i64 n, .slice a l.length cap] w fun e w' => e = .returned (.tuple #[.string (numB n l).1, .int .i64 (numB n l).2]) ∧ Calm w w' := by
  by_cases hn : n < 1 ∨ 7 < n
  · have hr := box (show numB n l = (⟨#[]⟩, 1) by unfold numB; rw [if_pos hn])
    rw [hr.out]
    have hn' : n < 1 ∨ (1 ≤ n ∧ 7 < n) := by omega
    clear hn
    rcases hn' with h1 | ⟨h1, h2⟩
    all_goals
      go_enter Tryz.func57, Tryz.ntmps57
      go_wp2_with fail
      go_ret2
      exact ⟨rfl, .refl _⟩
  · obtain ⟨m, rfl⟩ : ∃ m : Nat, n = m := ⟨n.toNat, by omega⟩
    have hm1 : 1 ≤ m := by omega
    have hm7 : m ≤ 7 := by omega
    have hr := box (show numB m l = if l.all (fitsN m) then (⟨(lowN m l).toArray⟩, 0) else (⟨#[]⟩, 2) by unfold numB; rw [if_neg hn]; rfl)
    have H := box h
    have Hi := box hi
    clear h hi hn
    go_enter Tryz.func57, Tryz.ntmps57
    go_wp2_with fail
    go_loopw [17] (fun i wr => ∃ k : Nat, k ≤ l.length ∧ i = .int .i64 k ∧ (l.take k).all (fitsN m) = true ∧ Lib.IsBuilder BT 5 w.heap.size w.heap.size (Lib.byteCells (lowN m (l.take k))) wr ∧ Calm w wr) (fun i _ => l.length - (intOf i).toNat)
    case atStart =>
      exact ⟨0, Nat.zero_le _, rfl, rfl, .inl ⟨Nat.le_refl _, .slice none 0 0, heap_new w _, World.ownsRow_nil _ _ _ _, by simp [Value.ownBlock]⟩, (Calm.refl w).alloc _⟩
    case round =>
      obtain ⟨k, hk, rfl, hall, hB, hC⟩ := hrel
      have Hall := box hall
      have HB := box hB
      have HC := box hC
      clear hall hB hC
      by_cases hlt : k < l.length
      · obtain ⟨b, off, rfl, hb, hcell⟩ := H.out.below rfl HC.out k hlt
        obtain ⟨x, hx⟩ : ∃ x, l[k] = x := ⟨_, rfl⟩
        obtain ⟨hx1, hx2⟩ := Hi.out l[k] (List.getElem_mem hlt)
        have hsn := box (lowN_snoc m l k hlt)
        have has := box (show (l.take (k + 1)).all (fitsN m) = ((l.take k).all (fitsN m) && fitsN m l[k]) by rw [List.take_succ_eq_append_getElem hlt, List.all_append]; simp)
        rw [hx] at hcell hx1 hx2 hsn has
        have q8 : IntKind.i64.wrap (8 * (m : Int)) = 8 * m := IntWalk.i64_in _ (by omega)
        have hfd := box (fits_div m hm1 hm7 x)
        have hbad := box (fun (hf : fitsN m x = false) => (show numB m l = (⟨#[]⟩, 2) by
          rw [hr.out, if_neg]
          rw [List.all_eq_true]
          intro hh
          have := hh l[k] (List.getElem_mem hlt)
          rw [hx, hf] at this
          cases this))
        have hlen := box (lowN_length m (l.take k))
        clear hx
        go_wp2_with fail
        all_goals first
          | (have hh : x < 0 ∨ (x / 2 ^ (8 * m) != 0) = true := by first | assumption | exact .inl (by assumption)
             have hb2 := hbad.out (by rw [hfd.out]; rcases hh with h | h; rw [decide_eq_false (by omega)]; rfl; rw [h]; simp)
             go_ret2
             exact ⟨ret_tup2 (by rw [hb2]; rfl) (by rw [hb2]; rfl), HC.out⟩)
          | skip
        have hok := box (show fitsN m x = true by
          have hh : 0 ≤ x ∧ (x / 2 ^ (8 * m) != 0) = false := by assumption
          rw [hfd.out, hh.2, decide_eq_true hh.1]; rfl)
        have hx0 : 0 ≤ x := by have := hok.out; unfold fitsN at this; simp at this; exact this.1
        obtain ⟨y, rfl⟩ : ∃ y : Nat, x = y := ⟨x.toNat, by omega⟩
        refine (put_any m y _ (by omega) (by omega)).mono ?_
        rintro e w2 ⟨rfl, hc2⟩
        have HB2 := box (HB.out.calm' hc2)
        have HC2 := box (HC.out.trans hc2)
        clear hc2
        go_wp2_with fail
        refine (WriteString_any w.heap.size w.heap.size _ ⟨(low m y).toArray⟩ _ HB2.out (by rw [Lib.byteCells_length, hlen.out, low_size, List.length_take]; have : min k l.length * m ≤ 1000000 * 7 := Nat.mul_le_mul (by omega) (by omega); omega) (by exact HC2.out.size)).mono ?_
        rintro e w3 ⟨rfl, hb3, hc3⟩
        have HB3 := box hb3
        have HC3 := box (Below.trans HC2.out hc3)
        clear hb3 hc3
        go_wp2_with fail
        go_roundw
        case rel =>
          refine ⟨k + 1, by omega, by go_num, by rw [has.out, Hall.out, hok.out]; rfl, ?_, HC3.out⟩
          rw [hsn.out, Lib.byteCells_append]
          exact .inr HB3.out
        case measure => simp [intOf]; omega
      · obtain rfl : k = l.length := by omega
        have hr := box (show numB m l = (⟨(lowN m l).toArray⟩, 0) by
          have := Hall.out
          rw [List.take_length] at this
          rw [hr.out, if_pos this])
        have HB := box (show Lib.IsBuilder BT 5 w.heap.size w.heap.size (Lib.byteCells (lowN m l)) wr by have := HB.out; rw [List.take_length] at this; exact this)
        go_wp2_with fail
        refine (Tryz.Builder_String_any w.heap.size w.heap.size _ wr HB.out (by exact HC.out.size)).mono ?_
        rintro e w2 ⟨rfl, hc2⟩
        have HC2 := box (Below.trans HC.out hc2)
        clear hc2
        go_wp2_with fail
        go_ret2
        exact ⟨ret_tup2 (by rw [hr.out]; rfl) (by rw [hr.out]; rfl), HC2.out⟩
end Go.Proofs.YtafdfmdcnniccaaGreat.oc

/- Plain: texts' bytes and what a reader makes of them. -/
namespace Go.Proofs.YtafdfmdcnniccaaGreat.oc
open Go.RowKit

/-- A text's bytes. -/
def textL (s : ByteArray) : List UInt8 := low 2 s.size ++ s.data.toList
def textsL (l : List ByteArray) : List UInt8 := l.flatMap textL
abbrev shortB (s : ByteArray) : Bool := decide (s.size ≤ 65535)
/-- Texts' bytes, and the error's number. -/
def textsB (l : List ByteArray) : ByteArray × Int := if l.all shortB then (⟨(textsL l).toArray⟩, 0) else (⟨#[]⟩, 6)
def listB (l : List ByteArray) : ByteArray × Int := if 255 < l.length then (⟨#[]⟩, 6) else if l.all shortB then (⟨(low 1 l.length ++ textsL l).toArray⟩, 0) else (⟨#[]⟩, 6)
theorem textL_length (s : ByteArray) : (textL s).length = 2 + s.size := by unfold textL; rw [List.length_append, low_length, size_toList]
theorem textsL_snoc (l : List ByteArray) (k : Nat) (hk : k < l.length) : textsL (l.take (k + 1)) = textsL (l.take k) ++ textL l[k] := by
  unfold textsL; rw [List.take_succ_eq_append_getElem hk, List.flatMap_append]; simp
theorem textsL_length : ∀ l : List ByteArray, l.all shortB = true → (textsL l).length ≤ l.length * 65537
  | [], _ => by simp [textsL]
  | s :: l, h => by
    rw [List.all_cons, Bool.and_eq_true] at h
    have h1 : s.size ≤ 65535 := of_decide_eq_true h.1
    have h2 := textsL_length l h.2
    have h3 : textsL (s :: l) = textL s ++ textsL l := by unfold textsL; rw [List.flatMap_cons]
    rw [h3, List.length_append, textL_length, List.length_cons]
    omega
theorem take_left (R : Rdr) (n : Int) : (R.take n).2.s.size ≤ R.s.size := by
  unfold Rdr.take
  split; exact Nat.le_refl _
  split; exact Nat.le_refl _
  split; exact Nat.le_refl _
  simp only [ByteArray.size_extract]; omega
theorem num_left (R : Rdr) (n : Int) : (R.num n).2.s.size ≤ R.s.size := by
  unfold Rdr.num
  split; exact Nat.le_refl _
  split; exact Nat.le_refl _
  exact take_left R n
theorem num_small (R : Rdr) (n : Int) : 0 ≤ (R.num n).1 ∧ (R.num n).1 < 72057594037927936 := by
  unfold Rdr.num
  split; exact ⟨Int.le_refl _, by simp⟩
  split; exact ⟨Int.le_refl _, by simp⟩
  rename_i _ hn
  have h1 := take_size R n (by omega)
  have h2 := getN_take (R.take n).1.data.toList (R.take n).1.data.toList.length (Nat.le_refl _)
  rw [List.take_length, size_toList] at h2
  have h3 : 256 ^ (R.take n).1.size ≤ 256 ^ 7 := Nat.pow_le_pow_right (by decide) h1
  have h4 : (256 : Nat) ^ 7 = 72057594037927936 := by decide
  simp only
  omega
def Rdr.end_ (R : Rdr) : Int := if R.e ≠ 0 then R.e else if R.s.size = 0 then 0 else 4
/-- Reads a text. -/
def Rdr.text (R : Rdr) (most : Int) : ByteArray × Rdr :=
  if R.e ≠ 0 then (⟨#[]⟩, R) else
  let a := R.num 2
  let t := (if a.2.e = 0 ∧ most < a.1 then (⟨a.2.s, 6⟩ : Rdr) else a.2).take a.1
  if t.2.e ≠ 0 then (t.1, ⟨R.s, t.2.e⟩) else t
/-- Reads texts. -/
def Rdr.texts (R : Rdr) (most : Int) : Nat → List ByteArray × Rdr
  | 0 => ([], R)
  | k + 1 => ((R.texts most k).1 ++ [((R.texts most k).2.text most).1], ((R.texts most k).2.text most).2)
/-- Reads a list. -/
def Rdr.list (R : Rdr) (many most : Int) : List ByteArray × Rdr :=
  if R.e ≠ 0 then ([], R) else
  let a := R.num 1
  let t := (if a.2.e = 0 ∧ many < a.1 then (⟨a.2.s, 6⟩ : Rdr) else a.2).texts most a.1.toNat
  if t.2.e ≠ 0 then ([], ⟨R.s, t.2.e⟩) else t
end Go.Proofs.YtafdfmdcnniccaaGreat.oc

/- Layer 1: texts' bytes, a list's bytes. -/
namespace Go.Proofs.YtafdfmdcnniccaaGreat.oc
open Go.ChangeShapes Go.WideShapes Go.ChangeAt Go.RowKit

set_option maxRecDepth 100000 in
set_option maxHeartbeats 4000000 in
theorem Text_any (v : Value) (l : List ByteArray) (w : World) (h : StrsAt w v l) (hl : l.length ≤ 1000000) (hi : ∀ s ∈ l, s.size ≤ maxLen) :
    Calls Tryz.prog 58 #[v] w fun e w' => e = .returned (.tuple #[.string (textsB l).1, .int .i64 (textsB l).2]) ∧ Calm w w' := by
  obtain ⟨a, cap, rfl, hcells⟩ := h.uni
  have H := box hcells
  have Hi := box hi
  have hr := box (show textsB l = if l.all shortB then (⟨(textsL l).toArray⟩, 0) else (⟨#[]⟩, 6) from rfl)
  clear h hi hcells
  go_enter Tryz.func58, Tryz.ntmps58
  go_wp2_with fail
  go_loopw [9] (fun i wr => ∃ k : Nat, k ≤ l.length ∧ i = .int .i64 k ∧ (l.take k).all shortB = true ∧ Lib.IsBuilder BT 5 w.heap.size w.heap.size (Lib.byteCells (textsL (l.take k))) wr ∧ Calm w wr) (fun i _ => l.length - (intOf i).toNat)
  case atStart =>
    exact ⟨0, Nat.zero_le _, rfl, rfl, .inl ⟨Nat.le_refl _, .slice none 0 0, heap_new w _, World.ownsRow_nil _ _ _ _, by simp [Value.ownBlock]⟩, (Calm.refl w).alloc _⟩
  case round =>
    obtain ⟨k, hk, rfl, hall, hB, hC⟩ := hrel
    have Hall := box hall
    have HB := box hB
    have HC := box hC
    clear hall hB hC
    by_cases hlt : k < l.length
    · obtain ⟨b, off, rfl, hb, hcell0⟩ := H.out k hlt
      have hcell := (HC.out.cell (p := ⟨b, off + k, none⟩) hb).trans hcell0
      have hblt := Nat.lt_of_lt_of_le hb HC.out.size
      rw [List.getD_eq_getElem?_getD, List.getElem?_eq_getElem hlt] at hcell
      simp only [Option.getD_some] at hcell
      have hsz := Hi.out l[k] (List.getElem_mem hlt)
      have hsn := box (textsL_snoc l k hlt)
      have has := box (show (l.take (k + 1)).all shortB = ((l.take k).all shortB && shortB l[k]) by rw [List.take_succ_eq_append_getElem hlt, List.all_append]; simp)
      have hno := box (show shortB l[k] = false → textsB l = (⟨#[]⟩, 6) from fun hf => by
        rw [hr.out, if_neg]
        rw [List.all_eq_true]
        intro hh
        have := hh l[k] (List.getElem_mem hlt)
        rw [hf] at this
        cases this)
      have hlen := box (textsL_length (l.take k) Hall.out)
      obtain ⟨s, hs⟩ : ∃ s, l[k] = s := ⟨_, rfl⟩
      rw [hs] at hcell hsn has hno hsz
      unfold maxLen at hsz
      clear hs hcell0
      by_cases hbig : 65535 < s.size
      · have hno := box (hno.out (decide_eq_false (by omega)))
        go_wp2_with fail
        go_ret2
        exact ⟨ret_tup2 (by rw [hno.out]; rfl) (by rw [hno.out]; rfl), HC.out⟩
      · have hsh : shortB s = true := decide_eq_true (by omega)
        have hcat := box (show (⟨(low 2 s.size).toArray⟩ : ByteArray) ++ s = ⟨(textL s).toArray⟩ from ba_ext (by rw [append_toList]; rfl))
        have z2 : (⟨(low 2 s.size).toArray⟩ : ByteArray).size = 2 := low_size 2 s.size
        have hput := box (fun W => put_any 2 s.size W (by decide) (by omega))
        obtain ⟨u, hu⟩ : ∃ u : ByteArray, ⟨(low 2 s.size).toArray⟩ = u := ⟨_, rfl⟩
        rw [hu] at hcat z2 hput
        have has := box (show (l.take (k + 1)).all shortB = true by rw [has.out, Hall.out, hsh]; rfl)
        clear hu hsh
        go_wp2_with fail
        refine (hput.out _).mono ?_
        rintro e w2 ⟨rfl, hc2⟩
        have HB2 := box (HB.out.calm' hc2)
        have HC2 := box (HC.out.trans hc2)
        clear hc2
        go_wp2_with fail
        rw [hcat.out]
        have hroom : (Lib.byteCells (textsL (l.take k))).length + (⟨(textL s).toArray⟩ : ByteArray).size ≤ 140737488355328 := by
          have h1 := hlen.out
          rw [List.length_take] at h1
          have h3 : min k l.length * 65537 ≤ 1000000 * 65537 := Nat.mul_le_mul (by omega) (by omega)
          have h4 : (⟨(textL s).toArray⟩ : ByteArray).size = 2 + s.size := by show (textL s).toArray.size = _; simp [textL_length]
          rw [h4, Lib.byteCells_length]
          omega
        refine (WriteString_any w.heap.size w.heap.size _ ⟨(textL s).toArray⟩ _ HB2.out hroom (by exact HC2.out.size)).mono ?_
        rintro e w3 ⟨rfl, hb3, hc3⟩
        have HB3 := box hb3
        have HC3 := box (Below.trans HC2.out hc3)
        clear hb3 hc3
        go_wp2_with fail
        go_roundw
        case rel =>
          refine ⟨k + 1, by omega, by go_num, has.out, ?_, HC3.out⟩
          rw [hsn.out, Lib.byteCells_append]
          exact .inr HB3.out
        case measure => simp [intOf]; omega
    · obtain rfl : k = l.length := by omega
      have hr := box (show textsB l = (⟨(textsL l).toArray⟩, 0) by
        have := Hall.out
        rw [List.take_length] at this
        rw [hr.out, if_pos this])
      have HB := box (show Lib.IsBuilder BT 5 w.heap.size w.heap.size (Lib.byteCells (textsL l)) wr by have := HB.out; rw [List.take_length] at this; exact this)
      go_wp2_with fail
      refine (Tryz.Builder_String_any w.heap.size w.heap.size _ wr HB.out (by exact HC.out.size)).mono ?_
      rintro e w2 ⟨rfl, hc2⟩
      have HC2 := box (Below.trans HC.out hc2)
      clear hc2
      go_wp2_with fail
      go_ret2
      exact ⟨ret_tup2 (by rw [hr.out]; rfl) (by rw [hr.out]; rfl), HC2.out⟩
end Go.Proofs.YtafdfmdcnniccaaGreat.oc
