/- strings.Builder: copyCheck, WriteString. -/
import Derived.Test.YtdepejneliacpaaGreatDoorRows
import Derived.WalkKit
import Derived.ProofKit
import Derived.OpenShut
import Derived.Handy
import Derived.Deep.LoopGhost
import Derived.Lib.Hide
import Derived.Lib.Strings
import Derived.SizedLaws
import Derived.Maps.Own
import Derived.Maps.OwnOps
import Derived.Maps.OwnSet
import Derived.Maps.RangeWalk
import Derived.Deep.QuietTactic
import Derived.BigQuiet
import Derived.Deep.RegionHeld3
import Derived.Lib.ConvBytes
import Derived.Lib.AppendZeros
import Derived.Lib.AppendZerosOnto
import Derived.Lib.LazyBuf
import Derived.Shelf.Abstract
import Derived.LaidEql
import Derived.Lib.SliceRun
import Derived.StillTailTactics
import Derived.Deep.Slices
import Derived.Lib.Atoi
import Derived.Lib.ItoaNum
import Derived.Lib.SlTrimSet
import Derived.Shelf.SlIter.Nil
import Derived.Ground.GgzProg
import Derived.Shelf.SortM.Plain
import Derived.Shelf.SortM.SortNone
import Derived.Ground.SlgmProg
import Derived.Shelf.SlicesE.DeleteFunc
import Derived.Ground.SlgfProg
import Derived.Test.YtdepejneliacpaaGreatDoorProg
import Derived.Shelf.Strings.Builder1
import Derived.Shelf.Strings.Builder2
import Derived.Shelf.Strings.Trim
import Derived.Shelf.Small.Utf8
import Derived.Shelf.Small.Bits
import Derived.Shelf.Small.Strs
import Derived.Shelf.Small.Wraps
import Derived.Shelf.Strings.BuilderF
import Derived.Shelf.Strings.BuilderK
import Derived.Shelf.Strings.Builder2Cap
import Derived.Shelf.Strconv.Atoi
import Derived.Shelf.Strconv.Itoa0
import Derived.Shelf.Strconv.Itoa1
import Derived.Shelf.LaysM
import Derived.Shelf.Strconv.Itoa2
import Derived.Shelf.Strconv.Itoa3
import Derived.Shelf.Strings.Search1
import Derived.Shelf.Sort.Plain
import Derived.Shelf.GgClosure.StringsIndexFunc
import Derived.Ground.GgwProg
import Derived.Shelf.GgClosure.StringsIndexFuncTop
import Derived.Shelf.GgClosure.StringsRunes
import Derived.Shelf.Strings.Prefix
import Derived.Shelf.Strings.Runes
import Derived.Shelf.Strings.AsciiSet
import Derived.Shelf.Bits.Mul64
import Derived.Shelf.Strings.Repeat
import Derived.Shelf.Unicode.DecodeSlow
import Derived.Shelf.Unicode.DecodeAny
import Derived.Shelf.Unicode.DecodeLast
import Derived.Shelf.Strings.BuilderCap
import Derived.Shelf.Slices.Equal
import Derived.Ground.Names2Prog
import Derived.Shelf.Slices.Clone
import Derived.Shelf.Slices.CompactS
import Derived.Shelf.Slices.SearchI
import Derived.Shelf.Slices.Cells
import Derived.Shelf.Slices.In.SortNone
import Derived.Shelf.Slices.Empties2
import Derived.Ground.SlgnProg
import Derived.Shelf.SlicesE.Equal
import Derived.Shelf.SlicesE.Compact
import Derived.Shelf.SlicesE.Clone
import Derived.Shelf.SlicesE.IndexFunc
import Derived.Shelf.Strings.SlTrimAscii
import Derived.Lib.Repeat
import Derived.Lib.LaidTab
import Derived.Deep.RegionLaw
import Derived.Deep.RegionWith
import Derived.Lib.AtoiErrMem
import Derived.Laws.MakeOwn
import Derived.Lib.Builder
import Derived.Lib.AppendStr
import Derived.Test.YtdepejneliacpaaGreatDoorPk22
namespace Go.Proofs.YtdepejneliacpaaGreatDoor.oc
open Go.ChangeShapes Go.WideShapes Go.ChangeAt Go.RowKit

abbrev BT : TypeId := 240
theorem sizeB : (Tryz.prog.info? BT).map (·.size) = some 2 := by kernel_rfl
theorem liesB : liesAt Tryz.prog Tryz.prog.depth BT (2 / Tryz.prog.cellsOf BT) 0 BT 1 = true := by kernel_rfl
theorem infoU8 : (Tryz.prog.info? 5).map (fun i => (i.zero, i.size, i.bytes)) = some (some (.int .u8 0), 1, 1) := by kernel_rfl
set_option maxHeartbeats 1000000 in
set_option maxRecDepth 100000 in
theorem copyCheck_any (B b : Nat) (bs : List Value) (w : World) (h : Lib.IsBuilder BT 5 B b bs w) :
    Calls Tryz.prog 231 #[.pointer (some ⟨b, 0, none⟩)] w fun e w' => e = .returned (.tuple #[]) ∧ Lib.BuilderAt BT 5 B b (.pointer (some ⟨b, 0, none⟩)) bs w' ∧ Below B w w' := by
  obtain ⟨j, hj, hjs⟩ := Option.map_eq_some_iff.1 sizeB
  rcases h with h | h
  · have H := box h
    have h0 := h.cell0
    have hfz := h.frozen0
    have hsh := box h.shape
    clear h
    go_enter Tryz.func231, Tryz.ntmps231
    go_wp2
    rw [Lib.run_to_unsafe w ⟨b, 0, none⟩ Tryz.underlying238 Tryz.underlying294 hj (by rw [hjs]; decide) hsh.out (Nat.zero_lt_succ 1)]
    simp only [Result.andThen]
    rw [Oper.upon_value]
    go_wp2
    rw [run_callFunc_extern Tryz.func259 (by kernel_rfl) (by kernel_rfl) (by kernel_rfl) (e := Extern.AbiNoEscape.same) (by kernel_rfl)]
    rw [Lib.run_noEscape]
    simp only [Result.andThen]
    rw [Oper.upon_value]
    go_wp2
    rw [Lib.run_from_unsafe w ⟨b, 0, none⟩ Tryz.underlying294 Tryz.underlying238 hj hsh.out liesB]
    simp only [Result.andThen]
    rw [Oper.upon_value]
    go_wp2
    go_end0
    exact ⟨rfl, H.out.used _, (Below.refl B w).setCell (p := ⟨b, 0, none⟩) H.out.1 _⟩
  · have H := box h
    have h0 := h.cell0
    clear h
    go_enter Tryz.func231, Tryz.ntmps231
    go_wp2
    rw [Lib.run_neq_ptr_same w _ Tryz.underlying238 hj]
    go_wp2
    go_end0
    exact ⟨rfl, H.out, Below.refl B _⟩

set_option maxHeartbeats 2000000 in
set_option maxRecDepth 100000 in
theorem WriteString_any (B b : Nat) (bs : List Value) (s : ByteArray) (w : World) (h : Lib.IsBuilder BT 5 B b bs w) (hlen : bs.length + s.size ≤ 140737488355328) (hBw : B ≤ w.heap.size) :
    Calls Tryz.prog 196 #[.pointer (some ⟨b, 0, none⟩), .string s] w fun e w' => e = .returned (.tuple #[.int .i64 s.size, .nilIface]) ∧ Lib.BuilderAt BT 5 B b (.pointer (some ⟨b, 0, none⟩)) (bs ++ Lib.strCells s) w' ∧ Below B w w' := by
  obtain ⟨i0, hi, hz0, hz1, hz2⟩ := info_parts infoU8
  have hcc := box (copyCheck_any B b bs w h)
  clear h
  go_enter Tryz.func196, Tryz.ntmps196
  go_wp2_with fail
  refine hcc.out.mono ?_
  rintro e w1 ⟨rfl, h1, hb1⟩
  obtain ⟨hB, v, hbk, hown, hne⟩ := h1
  have c0 : w1.cell? ⟨b, 0, none⟩ = some (.pointer (some ⟨b, 0, none⟩)) := cell_of hbk 0
  have c1 : w1.cell? ⟨b, 1, none⟩ = some v := cell_of hbk 1
  go_wp2_with (at_builtin; refine Lib.wpList_append_own_string _ rfl _ _ 22 9 rfl B 5 i0 Tryz.underlying22 Tryz.underlying9 hi hz0 hz1 hz2 _ _ _ rfl hown s rfl ?c3 ?c4 ?c5 ?_)
  case c3 => unfold maxLen; omega
  case c4 => omega
  case c5 => have := hb1.size; omega
  intro v' w2 hown' hgrow _
  have hlt : b < w1.heap.size := heap_lt hbk
  have hb2 : w2.heap[b]? = some (.cells #[.pointer (some ⟨b, 0, none⟩), v] BT (0, 0)) := by
    rw [hgrow.block b hlt (fun e => hne e.symm)]
    exact hbk
  have d0 : w2.cell? ⟨b, 0, none⟩ = some (.pointer (some ⟨b, 0, none⟩)) := cell_of hb2 0
  have d1 : w2.cell? ⟨b, 1, none⟩ = some v := cell_of hb2 1
  have f1 : w2.frozen? ⟨b, 1, none⟩ = false := free_of hb2 1
  obtain ⟨ao, n', cap, rfl⟩ : ∃ ao n' cap, v' = .slice ao n' cap := by
    rcases hown'.2 with ⟨hv, _⟩ | ⟨g, cap, cur, hv, _⟩
    · exact ⟨_, _, _, hv⟩
    · exact ⟨_, _, _, hv⟩
  go_wp2
  go_ret2
  refine ⟨rfl, ?_, ?_⟩
  · exact Lib.BuilderAt.put (T := BT) (e := 5) hB hb2 (bs' := bs ++ Lib.strCells s) (by simpa [Lib.strCells_length] using hown') (by decide)
  · exact (hb1.grown hgrow (by have := hb1.size; omega) (fun k hk => (hown.lt k hk).1)).setCell (p := ⟨b, 1, none⟩) hB _
end Go.Proofs.YtdepejneliacpaaGreatDoor.oc

/- Layer 1: numbers' bytes. -/
namespace Go.Proofs.YtdepejneliacpaaGreatDoor.oc
open Go.ChangeShapes Go.WideShapes Go.ChangeAt Go.RowKit

def fitsN (n : Nat) (x : Int) : Bool := decide (0 ≤ x) && decide (x < 256 ^ n)
def lowN (n : Nat) (l : List Int) : List UInt8 := l.flatMap fun x => low n x.toNat
/-- Numbers' bytes, and the error's number. -/
def numB (n : Int) (l : List Int) : ByteArray × Int :=
  if n < 1 ∨ 7 < n then (⟨#[]⟩, 1) else if l.all (fitsN n.toNat) then (⟨(lowN n.toNat l).toArray⟩, 0) else (⟨#[]⟩, 2)
theorem fits_div (m : Nat) (h1 : 1 ≤ m) (h7 : m ≤ 7) (x : Int) : fitsN m x = (decide (0 ≤ x) && !(x / 2 ^ (8 * m) != 0)) := by
  have hc : m = 1 ∨ m = 2 ∨ m = 3 ∨ m = 4 ∨ m = 5 ∨ m = 6 ∨ m = 7 := by omega
  unfold fitsN
  rw [Bool.eq_iff_iff]
  rcases hc with rfl | rfl | rfl | rfl | rfl | rfl | rfl <;> simp <;> omega
theorem low_size (n x : Nat) : (⟨(low n x).toArray⟩ : ByteArray).size = n := by show (low n x).toArray.size = n; simp [low_length]
theorem lowN_length (n : Nat) (l : List Int) : (lowN n l).length = l.length * n := by
  unfold lowN
  induction l with
  | nil => simp
  | cons x l ih => rw [List.flatMap_cons, List.length_append, low_length, ih, List.length_cons, Nat.succ_mul, Nat.add_comm]
theorem lowN_snoc (n : Nat) (l : List Int) (k : Nat) (hk : k < l.length) : lowN n (l.take (k + 1)) = lowN n (l.take k) ++ low n l[k].toNat := by
  unfold lowN; rw [List.take_succ_eq_append_getElem hk, List.flatMap_append]; simp
theorem _root_.Go.Lib.BuilderAt.calm' {T e : TypeId} {B b : Nat} {p : Value} {bs : List Value} {w w' : World} (h : Lib.BuilderAt T e B b p bs w) (hc : Calm w w') : Lib.BuilderAt T e B b p bs w' := by
  obtain ⟨hB, v, hb, hrow, hne⟩ := h
  refine ⟨hB, v, heap_calm hc hb, ?_, hne⟩
  obtain ⟨h1, h2⟩ := hrow
  refine ⟨h1, ?_⟩
  rcases h2 with h2 | ⟨g, cap, cur, e1, r1, r2, r3⟩
  · exact .inl h2
  · exact .inr ⟨g, cap, cur, e1, r1, heap_calm hc r2, r3⟩
theorem _root_.Go.Lib.IsBuilder.calm' {T e : TypeId} {B b : Nat} {bs : List Value} {w w' : World} (h : Lib.IsBuilder T e B b bs w) (hc : Calm w w') : Lib.IsBuilder T e B b bs w' := h.imp (·.calm' hc) (·.calm' hc)
/-- Numbers lie under a slice's address. -/
def IntsAt (w : World) (a : Option Addr) (l : List Int) : Prop := ∀ k (hk : k < l.length), ∃ b off, a = some ⟨b, off, none⟩ ∧ b < w.heap.size ∧ w.cell? ⟨b, off + k, none⟩ = some (.int .i64 l[k])
theorem IntsAt.below {w w' : World} {a : Option Addr} {l : List Int} {B : Nat} (h : IntsAt w a l) (hB : w.heap.size = B) (hc : Below B w w') : IntsAt w' a l := fun k hk => by
  obtain ⟨b, off, e, hb, hcell⟩ := h k hk
  exact ⟨b, off, e, Nat.lt_of_lt_of_le hb (by have := hc.size; omega), by rw [hc.cell (p := ⟨b, off + k, none⟩) (by show b < B; omega)]; exact hcell⟩

set_option maxRecDepth 100000 in
set_option maxHeartbeats 4000000 in
theorem Num_any (n : Int) (a : Option Addr) (cap : Nat) (l : List Int) (w : World) (h : IntsAt w a l) (hl : l.length ≤ 1000000) (hi : ∀ x ∈ l, -9223372036854775808 ≤ x ∧ x ≤ 9223372036854775807) :
    Calls Tryz.prog 156 #[.int .i64 n, .slice a l.length cap] w fun e w' => e = .returned (.tuple #[.string (numB n l).1, .int .i64 (numB n l).2]) ∧ Calm w w' := by
  by_cases hn : n < 1 ∨ 7 < n
  · have hr := box (show numB n l = (⟨#[]⟩, 1) by unfold numB; rw [if_pos hn])
    rw [hr.out]
    have hn' : n < 1 ∨ (1 ≤ n ∧ 7 < n) := by omega
    clear hn
    rcases hn' with h1 | ⟨h1, h2⟩
    all_goals
      go_enter Tryz.func156, Tryz.ntmps156
      go_wp2_with fail
      go_ret2
      exact ⟨rfl, .refl _⟩
  · obtain ⟨m, rfl⟩ : ∃ m : Nat, n = m := ⟨n.toNat, by omega⟩
    have hm1 : 1 ≤ m := by omega
    have hm7 : m ≤ 7 := by omega
    have hr := box (show numB m l = if l.all (fitsN m) then (⟨(lowN m l).toArray⟩, 0) else (⟨#[]⟩, 2) by unfold numB; rw [if_neg hn]; rfl)
    have H := box h
    have Hi := box hi
    clear h hi hn
    go_enter Tryz.func156, Tryz.ntmps156
    go_wp2_with fail
    go_loopw [17] (fun i wr => ∃ k : Nat, k ≤ l.length ∧ i = .int .i64 k ∧ (l.take k).all (fitsN m) = true ∧ Lib.IsBuilder BT 5 w.heap.size w.heap.size (Lib.byteCells (lowN m (l.take k))) wr ∧ Calm w wr) (fun i _ => l.length - (intOf i).toNat)
    case atStart =>
      exact ⟨0, Nat.zero_le _, rfl, rfl, .inl ⟨Nat.le_refl _, .slice none 0 0, heap_new w _, World.ownsRow_nil _ _ _ _, by simp [Value.ownBlock]⟩, (Calm.refl w).alloc _⟩
    case round =>
      obtain ⟨k, hk, rfl, hall, hB, hC⟩ := hrel
      have Hall := box hall
      have HB := box hB
      have HC := box hC
      clear hall hB hC
      by_cases hlt : k < l.length
      · obtain ⟨b, off, rfl, hb, hcell⟩ := H.out.below rfl HC.out k hlt
        obtain ⟨x, hx⟩ : ∃ x, l[k] = x := ⟨_, rfl⟩
        obtain ⟨hx1, hx2⟩ := Hi.out l[k] (List.getElem_mem hlt)
        have hsn := box (lowN_snoc m l k hlt)
        have has := box (show (l.take (k + 1)).all (fitsN m) = ((l.take k).all (fitsN m) && fitsN m l[k]) by rw [List.take_succ_eq_append_getElem hlt, List.all_append]; simp)
        rw [hx] at hcell hx1 hx2 hsn has
        have q8 : IntKind.i64.wrap (8 * (m : Int)) = 8 * m := IntWalk.i64_in _ (by omega)
        have hfd := box (fits_div m hm1 hm7 x)
        have hbad := box (fun (hf : fitsN m x = false) => (show numB m l = (⟨#[]⟩, 2) by
          rw [hr.out, if_neg]
          rw [List.all_eq_true]
          intro hh
          have := hh l[k] (List.getElem_mem hlt)
          rw [hx, hf] at this
          cases this))
        have hlen := box (lowN_length m (l.take k))
        clear hx
        go_wp2_with fail
        all_goals first
          | (have hh : x < 0 ∨ (x / 2 ^ (8 * m) != 0) = true := by first | assumption | exact .inl (by assumption)
             have hb2 := hbad.out (by rw [hfd.out]; rcases hh with h | h; rw [decide_eq_false (by omega)]; rfl; rw [h]; simp)
             go_ret2
             exact ⟨ret_tup2 (by rw [hb2]; rfl) (by rw [hb2]; rfl), HC.out⟩)
          | skip
        have hok := box (show fitsN m x = true by
          have hh : 0 ≤ x ∧ (x / 2 ^ (8 * m) != 0) = false := by assumption
          rw [hfd.out, hh.2, decide_eq_true hh.1]; rfl)
        have hx0 : 0 ≤ x := by have := hok.out; unfold fitsN at this; simp at this; exact this.1
        obtain ⟨y, rfl⟩ : ∃ y : Nat, x = y := ⟨x.toNat, by omega⟩
        refine (put_any m y _ (by omega) (by omega)).mono ?_
        rintro e w2 ⟨rfl, hc2⟩
        have HB2 := box (HB.out.calm' hc2)
        have HC2 := box (HC.out.trans hc2)
        clear hc2
        go_wp2_with fail
        refine (WriteString_any w.heap.size w.heap.size _ ⟨(low m y).toArray⟩ _ HB2.out (by rw [Lib.byteCells_length, hlen.out, low_size, List.length_take]; have : min k l.length * m ≤ 1000000 * 7 := Nat.mul_le_mul (by omega) (by omega); omega) (by exact HC2.out.size)).mono ?_
        rintro e w3 ⟨rfl, hb3, hc3⟩
        have HB3 := box hb3
        have HC3 := box (Below.trans HC2.out hc3)
        clear hb3 hc3
        go_wp2_with fail
        go_roundw
        case rel =>
          refine ⟨k + 1, by omega, by go_num, by rw [has.out, Hall.out, hok.out]; rfl, ?_, HC3.out⟩
          rw [hsn.out, Lib.byteCells_append]
          exact .inr HB3.out
        case measure => simp [intOf]; omega
      · obtain rfl : k = l.length := by omega
        have hr := box (show numB m l = (⟨(lowN m l).toArray⟩, 0) by
          have := Hall.out
          rw [List.take_length] at this
          rw [hr.out, if_pos this])
        have HB := box (show Lib.IsBuilder BT 5 w.heap.size w.heap.size (Lib.byteCells (lowN m l)) wr by have := HB.out; rw [List.take_length] at this; exact this)
        go_wp2_with fail
        refine (Tryz.Builder_String_any w.heap.size w.heap.size _ wr HB.out (by exact HC.out.size)).mono ?_
        rintro e w2 ⟨rfl, hc2⟩
        have HC2 := box (Below.trans HC.out hc2)
        clear hc2
        go_wp2_with fail
        go_ret2
        exact ⟨ret_tup2 (by rw [hr.out]; rfl) (by rw [hr.out]; rfl), HC2.out⟩
end Go.Proofs.YtdepejneliacpaaGreatDoor.oc

/- Layer 7: entries: put. -/
namespace Go.Proofs.YtdepejneliacpaaGreatDoor.en
open Go.ChangeShapes Go.WideShapes Go.ChangeAt Go.RowKit
open Go.Proofs.YtdepejneliacpaaGreatDoor.oc

/-- Numbers in so many bytes each. -/
def entL (l : List (Nat × Int)) : List UInt8 := l.flatMap fun x => low x.1 x.2.toNat
def entOk (l : List (Nat × Int)) : Bool := l.all fun x => fitsN x.1 x.2
/-- .. and their bytes; none where one doesn't fit. -/
def putB (l : List (Nat × Int)) : ByteArray := if entOk l then ⟨(entL l).toArray⟩ else ⟨#[]⟩
theorem entL_snoc (l : List (Nat × Int)) (k : Nat) (hk : k < l.length) : entL (l.take (k + 1)) = entL (l.take k) ++ low l[k].1 l[k].2.toNat := by
  unfold entL; rw [List.take_succ_eq_append_getElem hk, List.flatMap_append]; simp
theorem entOk_snoc (l : List (Nat × Int)) (k : Nat) (hk : k < l.length) : entOk (l.take (k + 1)) = (entOk (l.take k) && fitsN l[k].1 l[k].2) := by
  unfold entOk; rw [List.take_succ_eq_append_getElem hk, List.all_append]; simp
theorem entL_length (l : List (Nat × Int)) (h : ∀ x ∈ l, x.1 ≤ 7) : (entL l).length ≤ l.length * 7 := by
  unfold entL
  induction l with
  | nil => simp
  | cons x l ih =>
    rw [List.flatMap_cons, List.length_append, low_length, List.length_cons, Nat.succ_mul]
    have := ih (fun y hy => h y (List.mem_cons_of_mem _ hy))
    have := h x (List.mem_cons_self ..)
    omega
theorem num1 (n : Nat) (x : Int) (h1 : 1 ≤ n) (h7 : n ≤ 7) : numB n [x] = if fitsN n x then (⟨(low n x.toNat).toArray⟩, 0) else (⟨#[]⟩, 2) := by
  unfold numB
  rw [if_neg (by omega)]
  simp [lowN]
theorem bytes_append (a b : List UInt8) : (⟨a.toArray⟩ : ByteArray) ++ ⟨b.toArray⟩ = ⟨(a ++ b).toArray⟩ := by
  apply ba_ext; rw [append_toList]
theorem bytes_size (a : List UInt8) : (⟨a.toArray⟩ : ByteArray).size = a.length := by show a.toArray.size = _; simp

/-- Pairs of numbers lie under a slice's address. -/
def PairsAt (w : World) (a : Option Addr) (l : List (Nat × Int)) : Prop :=
  ∀ k (hk : k < l.length), ∃ b off, a = some ⟨b, off, none⟩ ∧ b < w.heap.size ∧ w.cell? ⟨b, off + k * 2, none⟩ = some (.int .i64 (l[k].1 : Int)) ∧ w.cell? ⟨b, off + k * 2 + 1, none⟩ = some (.int .i64 l[k].2)

set_option maxRecDepth 100000 in
set_option maxHeartbeats 4000000 in
theorem put_any (a : Option Addr) (cap : Nat) (l : List (Nat × Int)) (w : World) (h : PairsAt w a l) (hl : l.length ≤ 1000) (hn : ∀ x ∈ l, 1 ≤ x.1 ∧ x.1 ≤ 7) (hi : ∀ x ∈ l, -9223372036854775808 ≤ x.2 ∧ x.2 ≤ 9223372036854775807) :
    Calls Tryz.prog 109 #[.slice a l.length cap] w fun e w' => e = .returned (.tuple #[.string (putB l), .bool (entOk l)]) ∧ Calm w w' := by
  have H := box h
  have Hn := box hn
  have Hi := box hi
  clear h hn hi
  go_enter Tryz.func109, Tryz.ntmps109
  go_wp2_with fail
  go_loopw [4, 11] (fun o i wr => ∃ k : Nat, k ≤ l.length ∧ i = .int .i64 k ∧ o = .string ⟨(entL (l.take k)).toArray⟩ ∧ entOk (l.take k) = true ∧ Calm w wr) (fun _ i _ => l.length - (intOf i).toNat)
  case atStart => exact ⟨0, Nat.zero_le _, rfl, rfl, rfl, .refl _⟩
  case round =>
    obtain ⟨k, hk, rfl, rfl, hok, hC⟩ := hrel
    have Hok := box hok
    have HC := box hC
    clear hok hC
    by_cases hlt : k < l.length
    · obtain ⟨b, off, rfl, hb, hc0, hc1⟩ := H.out k hlt
      have c0 := (HC.out.cell (p := ⟨b, off + k * 2, none⟩) hb).trans hc0
      have c1 := (HC.out.cell (p := ⟨b, off + k * 2 + 1, none⟩) hb).trans hc1
      have hbr := Nat.lt_of_lt_of_le hb HC.out.size
      have hsn := box (entL_snoc l k hlt)
      have hos := box (entOk_snoc l k hlt)
      have hbad := box (fun (hf : fitsN l[k].1 l[k].2 = false) => (show entOk l = false by
        unfold entOk; rw [List.all_eq_false]; exact ⟨l[k], List.getElem_mem _, by simp [hf]⟩))
      obtain ⟨hn1, hn7⟩ := Hn.out _ (List.getElem_mem hlt)
      have hx := Hi.out _ (List.getElem_mem hlt)
      have hlen := entL_length (l.take k) (fun x hx => (Hn.out x ((List.take_sublist k l).subset hx)).2)
      have hlen2 : (entL (l.take k)).length ≤ 7000 := by have : (l.take k).length ≤ 1000 := by simp; omega
                                                         omega
      obtain ⟨⟨n, x⟩, he⟩ : ∃ y, l[k] = y := ⟨_, rfl⟩
      rw [he] at c0 c1 hsn hos hbad hn1 hn7 hx
      obtain ⟨O, hO⟩ : ∃ O, entL (l.take k) = O := ⟨_, rfl⟩
      rw [hO] at hsn hlen2
      rw [hO]
      simp only at c0 c1 hsn hos hbad hn1 hn7 hx
      have hosz : (⟨O.toArray⟩ : ByteArray).size ≤ 7000 := by rw [bytes_size]; exact hlen2
      have hlsz : (⟨(low n x.toNat).toArray⟩ : ByteArray).size ≤ 7 := by rw [low_size]; exact hn7
      clear hlen hlen2 hO he hc0 hc1
      have hnum := box (Num_any n (some ⟨wr.heap.size + 1, 0, none⟩) 1 [x] ((wr.alloc (.cells #[.int .i64 n, .int .i64 x] 173)).alloc (.cells #[.int .i64 x] 3)) (fun i hi => ⟨wr.heap.size + 1, 0, rfl, by simp, by
        have : i = 0 := by simpa using hi
        subst this
        have := cell_of (heap_new (wr.alloc (.cells #[.int .i64 n, .int .i64 x] 173)) (.cells #[.int .i64 x] 3)) 0
        simp⟩) (by simp) (fun y hy => by rw [List.mem_singleton] at hy; subst hy; exact hx))
      rw [num1 n x hn1 hn7] at hnum
      have hca := box (((Calm.refl wr).alloc (.cells #[.int .i64 n, .int .i64 x] 173)).alloc (.cells #[.int .i64 x] 3))
      cases hf : fitsN n x
      · rw [hf] at hnum
        have hno := box (hbad.out hf)
        clear hf hx
        go_wp2_with fail
        refine hnum.out.mono ?_
        rintro e w2 ⟨rfl, hc2⟩
        have HC2 := box ((HC.out.trans hca.out).trans hc2)
        clear hc2
        go_wp2_with fail
        go_ret2
        exact ⟨ret_tup2 (by unfold putB; rw [hno.out]; rfl) (by rw [hno.out]; rfl), HC2.out⟩
      · rw [hf] at hnum
        have hyes := box hf
        clear hf hx
        go_wp2_with fail
        refine hnum.out.mono ?_
        rintro e w2 ⟨rfl, hc2⟩
        have HC2 := box ((HC.out.trans hca.out).trans hc2)
        clear hc2
        go_wp2_with fail
        go_roundw
        case rel => exact ⟨k + 1, by omega, by go_num, by rw [hsn.out, ← bytes_append], by rw [hos.out, Hok.out, hyes.out]; rfl, HC2.out⟩
        case measure => simp [intOf]; omega
    · obtain rfl : k = l.length := by omega
      have hok := box (show entOk l = true by have := Hok.out; rw [List.take_length] at this; exact this)
      go_wp2_with fail
      go_ret2
      exact ⟨ret_tup2 (by unfold putB; rw [hok.out, List.take_length]; rfl) (by rw [hok.out]; rfl), HC.out⟩
end Go.Proofs.YtdepejneliacpaaGreatDoor.en

/- Layer 7: entries: get. -/
namespace Go.Proofs.YtdepejneliacpaaGreatDoor.en
open Go.ChangeShapes Go.WideShapes Go.ChangeAt Go.RowKit
open Go.Proofs.YtdepejneliacpaaGreatDoor.oc

def Rdr.fin (R : Rdr) : Int := if R.e ≠ 0 ∨ R.s.size = 0 then R.e else 4
theorem Left_any (b : Nat) (R : Rdr) (w : World) (h : RdrAt w b R) : Calls Tryz.prog 228 #[.pointer (some ⟨b, 0, none⟩)] w fun e w' => e = .returned (.int .i64 R.s.size) ∧ w = w' := by
  obtain ⟨c0, c1, f0, f1, hb⟩ := h.cells
  clear h
  go_enter Tryz.func228, Tryz.ntmps228
  go_wp2
  go_ret
  exact ⟨rfl, rfl⟩
theorem End_any (b : Nat) (R : Rdr) (w : World) (h : RdrAt w b R) : Calls Tryz.prog 187 #[.pointer (some ⟨b, 0, none⟩)] w fun e w' => e = .returned (.int .i64 (Rdr.fin R)) ∧ w = w' := by
  have HE := box (Err_any b R w h)
  have HL := box (Left_any b R w h)
  obtain ⟨s, e⟩ := R
  clear h
  by_cases he : e = 0
  · subst he
    by_cases hs : s.size = 0
    · have hr : Rdr.fin ⟨s, 0⟩ = 0 := by unfold Rdr.fin; rw [if_pos (.inr hs)]
      rw [hr]
      clear hr
      simp only at HL HE
      rw [hs] at HL
      clear hs
      go_enter Tryz.func187, Tryz.ntmps187
      go_wp2_with fail
      refine HE.out.mono ?_
      rintro e w' ⟨rfl, rfl⟩
      go_wp2_with fail
      refine HL.out.mono ?_
      rintro e w' ⟨rfl, rfl⟩
      go_wp2_with fail
      go_ret
      exact ⟨rfl, rfl⟩
    · have hr : Rdr.fin ⟨s, 0⟩ = 4 := by unfold Rdr.fin; rw [if_neg]; simp [hs]
      rw [hr]
      have h1 : ((s.size : Int) == 0) = false := by rw [beq_eq_false_iff_ne]; omega
      clear hr hs
      go_enter Tryz.func187, Tryz.ntmps187
      go_wp2_with fail
      refine HE.out.mono ?_
      rintro e w' ⟨rfl, rfl⟩
      go_wp2_with fail
      refine HL.out.mono ?_
      rintro e w' ⟨rfl, rfl⟩
      go_wp2_with fail
      go_ret
      exact ⟨rfl, rfl⟩
  · have hr : Rdr.fin ⟨s, e⟩ = e := by unfold Rdr.fin; rw [if_pos (.inl he)]
    rw [hr]
    have h1 : (e == 0) = false := beq_eq_false_iff_ne.2 he
    have h2 : (e != 0) = true := bne_iff_ne.2 he
    clear hr he
    go_enter Tryz.func187, Tryz.ntmps187
    go_wp2_with fail
    refine HE.out.mono ?_
    rintro e w' ⟨rfl, rfl⟩
    go_wp2_with fail
    go_ret
    exact ⟨rfl, rfl⟩

/-- Numbers read one behind the other. -/
def rdAll (R : Rdr) : List Nat → List Int × Rdr
  | [] => ([], R)
  | n :: l => ((R.num n).1 :: (rdAll (R.num n).2 l).1, (rdAll (R.num n).2 l).2)
theorem rdAll_append (l l' : List Nat) : ∀ R, rdAll R (l ++ l') = ((rdAll R l).1 ++ (rdAll (rdAll R l).2 l').1, (rdAll (rdAll R l).2 l').2) := by
  induction l with
  | nil => intro R; rfl
  | cons n l ih => intro R; simp only [List.cons_append, rdAll, ih]
theorem rdAll_length (l : List Nat) : ∀ R, (rdAll R l).1.length = l.length := by
  induction l with
  | nil => intro R; rfl
  | cons n l ih => intro R; simp [rdAll, ih]
theorem rdAll_snoc (l : List Nat) (k : Nat) (hk : k < l.length) (R : Rdr) : (rdAll R (l.take (k + 1))).2 = ((rdAll R (l.take k)).2.num l[k]).2 ∧ (rdAll R l).1.getD k 0 = ((rdAll R (l.take k)).2.num l[k]).1 := by
  constructor
  · rw [List.take_succ_eq_append_getElem hk, rdAll_append]; rfl
  · have : l = l.take k ++ (l[k] :: l.drop (k + 1)) := by rw [← List.drop_eq_getElem_cons hk, List.take_append_drop]
    conv => lhs; rw [this]
    rw [rdAll_append]
    have hl := rdAll_length (l.take k) R
    rw [List.getD_eq_getElem?_getD, List.getElem?_append_right (by rw [hl, List.length_take]; omega), hl, List.length_take, Nat.min_eq_left (by omega), Nat.sub_self]
    rfl
theorem take_le (R : Rdr) (n : Int) : (R.take n).2.s.size ≤ R.s.size := by
  unfold Rdr.take
  split; exact Nat.le_refl _
  split; exact Nat.le_refl _
  split; exact Nat.le_refl _
  simp only [ByteArray.size_extract]; omega
theorem num_le (R : Rdr) (n : Int) : (R.num n).2.s.size ≤ R.s.size := by
  unfold Rdr.num
  split; exact Nat.le_refl _
  split; exact Nat.le_refl _
  exact take_le R n
theorem rdAll_le (l : List Nat) : ∀ R, (rdAll R l).2.s.size ≤ R.s.size := by
  induction l with
  | nil => intro R; exact Nat.le_refl _
  | cons n l ih => intro R; exact Nat.le_trans (ih _) (num_le R n)

/-- Widths lie at blocks, their numbers being v. -/
def WidthsAt (w : World) (bs ns : List Nat) (v : Nat → Int) : Prop := ∀ k (h : k < bs.length) (h' : k < ns.length), w.heap[bs[k]]? = some (.cells #[.int .i64 (ns[k] : Int), .int .i64 (v k)] 173 (0, 0))
def GetDone (s : ByteArray) (bs ns : List Nat) (w : World) (e : Ending) (w' : World) : Prop :=
  e = .returned (.bool (decide (Rdr.fin (rdAll ⟨s, 0⟩ ns).2 = 0))) ∧ WidthsAt w' bs ns (fun k => (rdAll ⟨s, 0⟩ ns).1.getD k 0) ∧ Keeps (fun b => b ∈ bs) w w'
set_option maxRecDepth 100000 in
set_option maxHeartbeats 4000000 in
theorem get_any (s : ByteArray) (g cap : Nat) (bs ns : List Nat) (w : World) (hp : ∀ k (h : k < bs.length), w.cell? ⟨g, k, none⟩ = some (.pointer (some ⟨bs[k], 0, none⟩))) (hbn : bs.length = ns.length) (hl : bs.length ≤ 1000)
    (hw : WidthsAt w bs ns (fun _ => 0)) (hnd : bs.Nodup) (hg : g ∉ bs) (hs : s.size ≤ 9223372036854775807) :
    Calls Tryz.prog 159 #[.string s, .slice (some ⟨g, 0, none⟩) bs.length cap] w (GetDone s bs ns w) := by
  have Hp := box hp
  have Hw := box hw
  have Hnd := box hnd
  have Hg := box hg
  have hlen := box hbn
  clear hp hw hnd hg hbn
  go_enter Tryz.func159, Tryz.ntmps159
  go_wp2_with fail
  refine (New_any s w).mono ?_
  rintro e w1 ⟨rb, hrb, rfl, hR, hc1⟩
  have HR := box hR
  have Hc1 := box hc1
  have Hrb := box hrb
  clear hR hc1 hrb
  go_wp2_with fail
  go_loopw [12] (fun i wr => ∃ k : Nat, k ≤ bs.length ∧ i = .int .i64 k ∧ RdrAt wr rb (rdAll ⟨s, 0⟩ (ns.take k)).2 ∧ WidthsAt wr bs ns (fun i => if i < k then (rdAll ⟨s, 0⟩ ns).1.getD i 0 else 0) ∧ Keeps (fun b => b ∈ bs ∨ w.heap.size ≤ b) w wr) (fun i _ => bs.length - (intOf i).toNat)
  case atStart => exact ⟨0, Nat.zero_le _, rfl, HR.out, fun k h h' => heap_calm Hc1.out (by simpa using Hw.out k h h'), .of_calm Hc1.out⟩
  case round =>
    obtain ⟨k, hk, rfl, hR, hW, hK⟩ := hrel
    have HR := box hR
    have HW := box hW
    have HK := box hK
    clear hR hW hK
    by_cases hlt : k < bs.length
    · have hkn : k < ns.length := by rw [← hlen.out]; exact hlt
      have hpk := Hp.out k hlt
      have hgw := World.block_lt_of_cell? w _ hpk
      have p0 : wr.cell? ⟨g, k, none⟩ = some (.pointer (some ⟨bs[k], 0, none⟩)) := by
        have := HK.out.block g hgw (by rintro (h | h); exact Hg.out h; simp at hgw; omega)
        simp only [World.cell?] at hpk ⊢
        rw [this]; exact hpk
      have hwk := HW.out k hlt hkn
      simp only [show ¬ k < k from Nat.lt_irrefl k, if_false] at hwk
      have q0 := cell_of hwk 0
      have q1 := cell_of hwk 1
      have u0 := free_of hwk 0
      have u1 := free_of hwk 1
      have hbl := heap_lt hwk
      obtain ⟨hsn, hval⟩ := rdAll_snoc ns k hkn ⟨s, 0⟩
      have hb0 : bs[k] < w.heap.size := heap_lt (Hw.out k hlt hkn)
      have hne : bs[k] ≠ rb := by have := Hrb.out; omega
      have hle := rdAll_le (ns.take k) ⟨s, 0⟩
      obtain ⟨R, hRe⟩ : ∃ R, (rdAll ⟨s, 0⟩ (ns.take k)).2 = R := ⟨_, rfl⟩
      rw [hRe] at hsn hval hle HR
      obtain ⟨n, hn⟩ : ∃ n, ns[k] = n := ⟨_, rfl⟩
      obtain ⟨c, hc⟩ : ∃ c, bs[k] = c := ⟨_, rfl⟩
      have Hn := box hn
      have Hc := box hc
      rw [hn] at hsn hval
      simp only [hn, hc] at p0 q0 q1 u0 u1 hbl hne hb0
      have hnum := box (RNum_any rb R n wr HR.out (by simp only at hle; omega))
      obtain ⟨⟨x, R2⟩, hx⟩ : ∃ r, R.num n = r := ⟨_, rfl⟩
      rw [hx] at hsn hval hnum
      have Hsn := box hsn
      have Hval := box hval
      clear hRe hn hc hwk hpk hx hsn hval hle
      go_wp2_with fail
      refine hnum.out.mono ?_
      rintro e w2 ⟨rfl, hR2, hk2⟩
      have q1' : w2.cell? ⟨c, 1, none⟩ = some (.int .i64 0) := by
        simp only [World.cell?] at q1 ⊢
        rw [hk2.block c hbl hne]; exact q1
      have u1' : w2.frozen? ⟨c, 1, none⟩ = false := by
        simp only [World.frozen?] at u1 ⊢
        rw [hk2.block c hbl hne]; exact u1
      have hbl2 := Nat.lt_of_lt_of_le hbl hk2.size
      have HR2 := box (show RdrAt (w2.setCell ⟨c, 1, none⟩ (.int .i64 x)) rb R2 from (heap_set_other hne.symm _ _).trans hR2)
      have HW2 := box (show WidthsAt (w2.setCell ⟨c, 1, none⟩ (.int .i64 x)) bs ns (fun i => if i < k + 1 then (rdAll ⟨s, 0⟩ ns).1.getD i 0 else 0) from fun i h h' => by
        have hi := HW.out i h h'
        have hbi : bs[i] < w.heap.size := heap_lt (Hw.out i h h')
        have h2 : w2.heap[bs[i]]? = wr.heap[bs[i]]? := hk2.block _ (heap_lt hi) (by have := Hrb.out; omega)
        by_cases hik : i = k
        · subst hik
          simp only [show ¬ i < i from Nat.lt_irrefl i, if_false] at hi
          have := heap_set (h2.trans hi) 1 (.int .i64 x)
          simp only [show i < i + 1 from Nat.lt_succ_self i, if_true, Hval.out]
          rw [← Hc.out]
          exact this
        · have hcn : bs[i] ≠ c := fun e => hik (nodup_get Hnd.out h hlt (by rw [e, Hc.out]))
          rw [heap_set_other hcn, h2, hi]
          by_cases h3 : i < k
          · simp only [h3, show i < k + 1 by omega, if_true]
          · simp only [h3, show ¬ i < k + 1 by omega, if_false])
      have HK2 := box (show Keeps (fun b => b ∈ bs ∨ w.heap.size ≤ b) w (w2.setCell ⟨c, 1, none⟩ (.int .i64 x)) from
        (HK.out.trans' (hk2.mono (fun b _ e => .inr (by rw [e]; exact Hrb.out)))).setCell (p := ⟨c, 1, none⟩) (.inl (.inl (by rw [← Hc.out]; exact List.getElem_mem _))) _)
      clear hR2 hk2 q1 u1
      go_wp2_with fail
      go_roundw
      case rel => exact ⟨k + 1, by omega, by go_num, by rw [Hsn.out]; exact HR2.out, HW2.out, HK2.out⟩
      case measure => simp [intOf]; omega
    · obtain rfl : k = bs.length := by omega
      have hRe := HR.out
      rw [hlen.out, List.take_length] at hRe
      have HE := box (End_any rb _ wr hRe)
      have HWf := box (show WidthsAt wr bs ns (fun k => (rdAll ⟨s, 0⟩ ns).1.getD k 0) from fun i h h' => by have := HW.out i h h'; simp only [h, if_true] at this; exact this)
      have HKf := box (show Keeps (fun b => b ∈ bs) w wr from ⟨HK.out.os, HK.out.tape, HK.out.output, HK.out.size, fun b hb hn => HK.out.block b hb (by rintro (h | h); exact hn h; omega)⟩)
      obtain ⟨z, hz⟩ : ∃ z, Rdr.fin (rdAll ⟨s, 0⟩ ns).2 = z := ⟨_, rfl⟩
      have Hz := box hz
      rw [hz] at HE
      clear hRe hz
      go_wp2_with fail
      refine HE.out.mono ?_
      rintro e w2 ⟨rfl, rfl⟩
      go_wp2_with fail
      go_ret
      exact ⟨ret_bool (by rw [Hz.out]; by_cases h : z = 0 <;> simp [h]), HWf.out, HKf.out⟩
end Go.Proofs.YtdepejneliacpaaGreatDoor.en

/- Layer 7: links, marks, places: put and get. -/
namespace Go.Proofs.YtdepejneliacpaaGreatDoor.en
open Go.ChangeShapes Go.WideShapes Go.ChangeAt Go.RowKit
open Go.Proofs.YtdepejneliacpaaGreatDoor.oc

/-- Four numbers of bytes, or noughts; are they all? -/
def get4 (s : ByteArray) (ns : List Nat) : (Int × Int × Int × Int) × Bool :=
  if Rdr.fin (rdAll ⟨s, 0⟩ ns).2 = 0 then (((rdAll ⟨s, 0⟩ ns).1.getD 0 0, (rdAll ⟨s, 0⟩ ns).1.getD 1 0, (rdAll ⟨s, 0⟩ ns).1.getD 2 0, (rdAll ⟨s, 0⟩ ns).1.getD 3 0), true) else ((0, 0, 0, 0), false)
theorem pairs4 {w : World} {b : Nat} {n0 n1 n2 n3 : Nat} {z0 z1 z2 z3 x0 x1 x2 x3 : Int} {T : TypeId} (e0 : z0 = n0) (e1 : z1 = n1) (e2 : z2 = n2) (e3 : z3 = n3) (h : w.heap[b]? = some (.cells #[.int .i64 z0, .int .i64 x0, .int .i64 z1, .int .i64 x1, .int .i64 z2, .int .i64 x2, .int .i64 z3, .int .i64 x3] T (0, 0))) :
    PairsAt w (some ⟨b, 0, none⟩) [(n0, x0), (n1, x1), (n2, x2), (n3, x3)] := fun k hk => by
  subst e0 e1 e2 e3
  refine ⟨b, 0, rfl, heap_lt h, ?_⟩
  have hk : k < 4 := hk
  match k, hk with
  | 0, _ => exact ⟨cell_of h 0, cell_of h 1⟩
  | 1, _ => exact ⟨cell_of h 2, cell_of h 3⟩
  | 2, _ => exact ⟨cell_of h 4, cell_of h 5⟩
  | 3, _ => exact ⟨cell_of h 6, cell_of h 7⟩
theorem widths4 {w : World} {b0 b1 b2 b3 n0 n1 n2 n3 : Nat} {v : Nat → Int} (h0 : w.heap[b0]? = some (.cells #[.int .i64 n0, .int .i64 (v 0)] 173 (0, 0))) (h1 : w.heap[b1]? = some (.cells #[.int .i64 n1, .int .i64 (v 1)] 173 (0, 0)))
    (h2 : w.heap[b2]? = some (.cells #[.int .i64 n2, .int .i64 (v 2)] 173 (0, 0))) (h3 : w.heap[b3]? = some (.cells #[.int .i64 n3, .int .i64 (v 3)] 173 (0, 0))) :
    WidthsAt w [b0, b1, b2, b3] [n0, n1, n2, n3] v := fun k hk _ => by
  have hk : k < 4 := hk
  match k, hk with
  | 0, _ => exact h0
  | 1, _ => exact h1
  | 2, _ => exact h2
  | 3, _ => exact h3
theorem ptrs4 {w : World} {g b0 b1 b2 b3 : Nat} {T : TypeId} (h : w.heap[g]? = some (.cells #[.pointer (some ⟨b0, 0, none⟩), .pointer (some ⟨b1, 0, none⟩), .pointer (some ⟨b2, 0, none⟩), .pointer (some ⟨b3, 0, none⟩)] T (0, 0))) :
    ∀ k (hk : k < [b0, b1, b2, b3].length), w.cell? ⟨g, k, none⟩ = some (.pointer (some ⟨[b0, b1, b2, b3][k], 0, none⟩)) := fun k hk => by
  have hk : k < 4 := hk
  match k, hk with
  | 0, _ => exact cell_of h 0
  | 1, _ => exact cell_of h 1
  | 2, _ => exact cell_of h 2
  | 3, _ => exact cell_of h 3
theorem six (w : World) (o0 o1 o2 o3 o4 o5 : Obj) : let W := (((((w.alloc o0).alloc o1).alloc o2).alloc o3).alloc o4).alloc o5
    W.heap[w.heap.size]? = some o0 ∧ W.heap[w.heap.size + 1]? = some o1 ∧ W.heap[w.heap.size + 1 + 1]? = some o2 ∧ W.heap[w.heap.size + 1 + 1 + 1]? = some o3 ∧ W.heap[w.heap.size + 1 + 1 + 1 + 1]? = some o4 ∧ W.heap[w.heap.size + 1 + 1 + 1 + 1 + 1]? = some o5 := by
  have a0 := heap_new w o0
  have a1 := heap_new (w.alloc o0) o1
  have a2 := heap_new ((w.alloc o0).alloc o1) o2
  have a3 := heap_new (((w.alloc o0).alloc o1).alloc o2) o3
  have a4 := heap_new ((((w.alloc o0).alloc o1).alloc o2).alloc o3) o4
  have a5 := heap_new (((((w.alloc o0).alloc o1).alloc o2).alloc o3).alloc o4) o5
  simp only [World.size_alloc] at a1 a2 a3 a4 a5
  exact ⟨heap_old _ _ (heap_old _ _ (heap_old _ _ (heap_old _ _ (heap_old _ _ a0)))), heap_old _ _ (heap_old _ _ (heap_old _ _ (heap_old _ _ a1))), heap_old _ _ (heap_old _ _ (heap_old _ _ a2)), heap_old _ _ (heap_old _ _ a3), heap_old _ _ a4, a5⟩
theorem six_calm (w : World) (o0 o1 o2 o3 o4 o5 : Obj) : Calm w ((((((w.alloc o0).alloc o1).alloc o2).alloc o3).alloc o4).alloc o5) := ((((((Calm.refl w).alloc _).alloc _).alloc _).alloc _).alloc _).alloc _
set_option maxRecDepth 100000 in
set_option maxHeartbeats 2000000 in
theorem Place_put (x0 x1 x2 x3 : Int) (w : World) (h : ∀ x ∈ [x0, x1, x2, x3], -9223372036854775808 ≤ x ∧ x ≤ 9223372036854775807) :
    Calls Tryz.prog 61 #[.agg #[.int .i64 x0, .int .i64 x1, .int .i64 x2, .int .i64 x3]] w fun e w' => e = .returned (.tuple #[.string (putB [(6, x0), (2, x1), (5, x2), (7, x3)]), .bool (entOk [(6, x0), (2, x1), (5, x2), (7, x3)])]) ∧ Calm w w' := by
  have hc := ((Calm.refl w).alloc (.cells #[.int .i64 x0, .int .i64 x1, .int .i64 x2, .int .i64 x3] 33)).alloc (.cells #[.int .i64 6, .int .i64 x0, .int .i64 2, .int .i64 x1, .int .i64 5, .int .i64 x2, .int .i64 7, .int .i64 x3] 173)
  have hn := heap_new (w.alloc (.cells #[.int .i64 x0, .int .i64 x1, .int .i64 x2, .int .i64 x3] 33)) (.cells #[.int .i64 6, .int .i64 x0, .int .i64 2, .int .i64 x1, .int .i64 5, .int .i64 x2, .int .i64 7, .int .i64 x3] 173)
  simp only [World.size_alloc] at hn
  have hp := box (put_any (some ⟨w.heap.size + 1, 0, none⟩) 4 [(6, x0), (2, x1), (5, x2), (7, x3)] _ (pairs4 (n0 := 6) (n1 := 2) (n2 := 5) (n3 := 7) rfl rfl rfl rfl hn) (by simp) (by simp) (fun x hx => h x.2 (by simp at hx ⊢; rcases hx with rfl | rfl | rfl | rfl <;> simp)))
  have Hc := box hc
  clear h hc hn
  go_enter Tryz.func61, Tryz.ntmps61
  go_wp2_with fail
  refine hp.out.mono ?_
  rintro e w2 ⟨rfl, hc2⟩
  have Hc2 := box (Hc.out.trans hc2)
  clear hc2
  go_wp2_with fail
  go_ret2
  exact ⟨rfl, Hc2.out⟩
set_option maxRecDepth 100000 in
set_option maxHeartbeats 2000000 in
theorem Place_get (s : ByteArray) (w : World) (hs : s.size ≤ 9223372036854775807) :
    Calls Tryz.prog 115 #[.string s] w fun e w' => e = .returned (.tuple #[.agg #[.int .i64 (get4 s [6, 2, 5, 7]).1.1, .int .i64 (get4 s [6, 2, 5, 7]).1.2.1, .int .i64 (get4 s [6, 2, 5, 7]).1.2.2.1, .int .i64 (get4 s [6, 2, 5, 7]).1.2.2.2], .bool (get4 s [6, 2, 5, 7]).2]) ∧ Calm w w' := by
  obtain ⟨G4, hG4⟩ : ∃ G, get4 s [6, 2, 5, 7] = G := ⟨_, rfl⟩
  rw [hG4]
  have HG4 := box hG4
  clear hG4
  go_enter Tryz.func115, Tryz.ntmps115
  go_wp2_with fail
  obtain ⟨k0, k1, k2, k3, k4, k5⟩ := six w (.cells #[.int .i64 0, .int .i64 0, .int .i64 0, .int .i64 0] 33) (.cells #[.int .i64 6, .int .i64 0] 173) (.cells #[.int .i64 2, .int .i64 0] 173) (.cells #[.int .i64 5, .int .i64 0] 173) (.cells #[.int .i64 7, .int .i64 0] 173)
    (.cells #[.pointer (some ⟨w.heap.size + 1, 0, none⟩), .pointer (some ⟨w.heap.size + 1 + 1, 0, none⟩), .pointer (some ⟨w.heap.size + 1 + 1 + 1, 0, none⟩), .pointer (some ⟨w.heap.size + 1 + 1 + 1 + 1, 0, none⟩)] 210)
  have hcW := six_calm w (.cells #[.int .i64 0, .int .i64 0, .int .i64 0, .int .i64 0] 33) (.cells #[.int .i64 6, .int .i64 0] 173) (.cells #[.int .i64 2, .int .i64 0] 173) (.cells #[.int .i64 5, .int .i64 0] 173) (.cells #[.int .i64 7, .int .i64 0] 173)
    (.cells #[.pointer (some ⟨w.heap.size + 1, 0, none⟩), .pointer (some ⟨w.heap.size + 1 + 1, 0, none⟩), .pointer (some ⟨w.heap.size + 1 + 1 + 1, 0, none⟩), .pointer (some ⟨w.heap.size + 1 + 1 + 1 + 1, 0, none⟩)] 210)
  refine (get_any s (w.heap.size + 1 + 1 + 1 + 1 + 1) 4 [w.heap.size + 1, w.heap.size + 1 + 1, w.heap.size + 1 + 1 + 1, w.heap.size + 1 + 1 + 1 + 1] [6, 2, 5, 7] _ (ptrs4 k5) rfl (by simp) (widths4 k1 k2 k3 k4) (by simp <;> omega) (by simp <;> omega) hs).mono ?_
  rintro e w2 ⟨rfl, hw2, hk2⟩
  have j0 := (hk2.block _ (heap_lt k0) (by simp <;> omega)).trans k0
  have j1 := hw2 0 (by simp) (by simp)
  have j2 := hw2 1 (by simp) (by simp)
  have j3 := hw2 2 (by simp) (by simp)
  have j4 := hw2 3 (by simp) (by simp)
  simp only [List.getElem_cons_zero, List.getElem_cons_succ] at j1 j2 j3 j4
  have r0 := cell_of j0 0
  have r1 := cell_of j0 1
  have r2 := cell_of j0 2
  have r3 := cell_of j0 3
  have s0 := free_of j0 0
  have s1 := free_of j0 1
  have s2 := free_of j0 2
  have s3 := free_of j0 3
  have hl0 := heap_lt j0
  have v1 := cell_of j1 1
  have v2 := cell_of j2 1
  have v3 := cell_of j3 1
  have v4 := cell_of j4 1
  have HC2 := box (show Calm w w2 from Below.trans hcW (hk2.below hcW.size (fun b hb => by simp at hb; omega)))
  obtain ⟨f, hf⟩ : ∃ f, Rdr.fin (rdAll ⟨s, 0⟩ [6, 2, 5, 7]).2 = f := ⟨_, rfl⟩
  obtain ⟨L, hL⟩ : ∃ L, (rdAll ⟨s, 0⟩ [6, 2, 5, 7]).1 = L := ⟨_, rfl⟩
  have hg := box (show get4 s [6, 2, 5, 7] = if f = 0 then ((L.getD 0 0, L.getD 1 0, L.getD 2 0, L.getD 3 0), true) else ((0, 0, 0, 0), false) by unfold get4; rw [hf, hL])
  rw [hf]
  rw [hL] at v1 v2 v3 v4
  obtain ⟨y0, hy0⟩ : ∃ y, L.getD 0 0 = y := ⟨_, rfl⟩
  obtain ⟨y1, hy1⟩ : ∃ y, L.getD 1 0 = y := ⟨_, rfl⟩
  obtain ⟨y2, hy2⟩ : ∃ y, L.getD 2 0 = y := ⟨_, rfl⟩
  obtain ⟨y3, hy3⟩ : ∃ y, L.getD 3 0 = y := ⟨_, rfl⟩
  rw [hy0] at v1 hg
  rw [hy1] at v2 hg
  rw [hy2] at v3 hg
  rw [hy3] at v4 hg
  clear k0 k1 k2 k3 k4 k5 hcW hw2 hk2 j0 j1 j2 j3 j4 hf hL hy0 hy1 hy2 hy3
  by_cases hf0 : f = 0
  · have hg := box (show get4 s [6, 2, 5, 7] = ((y0, y1, y2, y3), true) by rw [hg.out, if_pos hf0])
    have hG : G4 = ((y0, y1, y2, y3), true) := by rw [← HG4.out, hg.out]
    have HG := box hG
    rw [decide_eq_true hf0]
    clear hG
    clear hf0
    go_wp2_with fail
    refine bodyPost_ret (v := .tuple #[.agg #[.int .i64 y0, .int .i64 y1, .int .i64 y2, .int .i64 y3], .bool true]) (by simp [results, Tryz.results115, go_sem, r0, r1, r2, r3, hl0]) rfl ⟨by rw [HG.out], ?_⟩
    exact (((((Keeps.of_calm (F := fun b => w.heap.size ≤ b) HC2.out).setCell (p := ⟨w.heap.size, 0, none⟩) (.inl (Nat.le_refl _)) _).setCell (p := ⟨w.heap.size, 1, none⟩) (.inl (Nat.le_refl _)) _).setCell (p := ⟨w.heap.size, 2, none⟩) (.inl (Nat.le_refl _)) _).setCell (p := ⟨w.heap.size, 3, none⟩) (.inl (Nat.le_refl _)) _).below (Nat.le_refl _) (fun _ h => h)
  · have hg := box (show get4 s [6, 2, 5, 7] = ((0, 0, 0, 0), false) by rw [hg.out, if_neg hf0])
    have hG : G4 = ((0, 0, 0, 0), false) := by rw [← HG4.out, hg.out]
    have HG := box hG
    rw [decide_eq_false hf0]
    clear hG
    clear hf0
    go_wp2_with fail
    refine bodyPost_ret (v := .tuple #[.agg #[.int .i64 0, .int .i64 0, .int .i64 0, .int .i64 0], .bool false]) (by simp [results, Tryz.results115, go_sem, r0, r1, r2, r3, hl0]) rfl ⟨by rw [HG.out], ?_⟩
    exact (((((Keeps.of_calm (F := fun b => w.heap.size ≤ b) HC2.out).setCell (p := ⟨w.heap.size, 0, none⟩) (.inl (Nat.le_refl _)) _).setCell (p := ⟨w.heap.size, 1, none⟩) (.inl (Nat.le_refl _)) _).setCell (p := ⟨w.heap.size, 2, none⟩) (.inl (Nat.le_refl _)) _).setCell (p := ⟨w.heap.size, 3, none⟩) (.inl (Nat.le_refl _)) _).below (Nat.le_refl _) (fun _ h => h)

end Go.Proofs.YtdepejneliacpaaGreatDoor.en

/- Layers 1 and 7, plain laws: what is put is got again. -/
namespace Go.Proofs.YtdepejneliacpaaGreatDoor.en
open Go.Proofs.YtdepejneliacpaaGreatDoor.oc

theorem getN_append (a b : List UInt8) : getN (a ++ b) = getN a * 256 ^ b.length + getN b := by
  induction b generalizing a with
  | nil => simp [getN]
  | cons c b ih =>
    rw [show a ++ c :: b = (a ++ [c]) ++ b by simp, ih, getN_snoc, show c :: b = [c] ++ b from rfl, ih [c]]
    have : getN [c] = c.toNat := by simp [getN]
    rw [this, List.length_append, List.length_singleton, Nat.add_comm 1, Nat.pow_succ, Nat.add_mul, Nat.mul_comm 256 (getN a), Nat.mul_assoc, Nat.mul_comm 256]
    omega
theorem getN_low : ∀ (n x : Nat), x < 256 ^ n → getN (low n x) = x
  | 0, x, h => by simp at h; subst h; rfl
  | n + 1, x, h => by
    rw [show low (n + 1) x = [UInt8.ofNat (x / 256 ^ n)] ++ low n x from rfl, getN_append, low_length]
    have hd : x / 256 ^ n < 256 := by rw [Nat.div_lt_iff_lt_mul (Nat.pow_pos (by decide))]; rw [Nat.pow_succ] at h; omega
    have h1 : getN [UInt8.ofNat (x / 256 ^ n)] = x / 256 ^ n := by simp [getN]; omega
    have h2 : low n x = low n (x % 256 ^ n) := low_mod n x
    rw [h1, h2, getN_low n _ (Nat.mod_lt _ (Nat.pow_pos (by decide)))]
    have := Nat.div_add_mod x (256 ^ n)
    rw [Nat.mul_comm] at this
    omega
where
  low_mod : ∀ (n x : Nat), low n x = low n (x % 256 ^ n) := fun n x => low_mod' n n (Nat.le_refl n) x
  low_mod' : ∀ (m n : Nat), m ≤ n → ∀ x, low m x = low m (x % 256 ^ n) := fun m => by
    induction m with
    | zero => intro n _ x; rfl
    | succ m ih =>
      intro n hm x
      unfold low
      rw [ih n (by omega) x]
      congr 1
      have : x % 256 ^ n / 256 ^ m % 256 = x / 256 ^ m % 256 := by
        obtain ⟨d, rfl⟩ : ∃ d, n = m + 1 + d := ⟨n - (m + 1), by omega⟩
        have e : 256 ^ (m + 1 + d) = 256 ^ m * (256 * 256 ^ d) := by rw [Nat.pow_add, Nat.pow_succ, Nat.mul_assoc]
        rw [e, Nat.mod_mul_right_div_self, Nat.mod_mul_right_mod]
      apply UInt8.toNat_inj.1
      simp [this]
theorem num_low (n x : Nat) (h1 : 1 ≤ n) (h7 : n ≤ 7) (hx : x < 256 ^ n) (rest : List UInt8) : (⟨⟨(low n x ++ rest).toArray⟩, 0⟩ : Rdr).num n = ((x : Int), ⟨⟨rest.toArray⟩, 0⟩) := by
  have ht : (⟨⟨(low n x ++ rest).toArray⟩, 0⟩ : Rdr).take n = (⟨(low n x).toArray⟩, ⟨⟨rest.toArray⟩, 0⟩) := by
    unfold Rdr.take
    rw [if_neg (fun h => h rfl), if_neg (by omega), if_neg (by rw [bytes_size]; simp [low_length]; omega)]
    simp only [Int.toNat_natCast]
    rw [bytes_size, Go.ByteArray.extract_mk, Go.ByteArray.extract_mk]
    simp [low_length, List.take_append_of_le_length, List.drop_append_of_le_length]
  unfold Rdr.num
  rw [if_neg (fun h => h rfl), if_neg (by omega), ht]
  simp only [getN_low n x hx]
theorem rdAll_ent : ∀ (l : List (Nat × Int)) (rest : List UInt8), (∀ x ∈ l, 1 ≤ x.1 ∧ x.1 ≤ 7) → entOk l = true → rdAll ⟨⟨(entL l ++ rest).toArray⟩, 0⟩ (l.map (·.1)) = (l.map (·.2), ⟨⟨rest.toArray⟩, 0⟩)
  | [], rest, _, _ => rfl
  | (n, x) :: l, rest, hn, hok => by
    have hok' : fitsN n x = true ∧ entOk l = true := by unfold entOk at hok ⊢; rw [List.all_cons, Bool.and_eq_true] at hok; exact hok
    have hf := hok'.1
    unfold fitsN at hf
    simp only [Bool.and_eq_true, decide_eq_true_eq] at hf
    have h1 := hn (n, x) (List.mem_cons_self ..)
    simp only at h1
    obtain ⟨y, rfl⟩ : ∃ y : Nat, x = y := ⟨x.toNat, by omega⟩
    have hy : y < 256 ^ n := by
      have := hf.2
      have e : (256 : Int) ^ n = ((256 ^ n : Nat) : Int) := by simp
      rw [e] at this
      omega
    have he : entL ((n, (y : Int)) :: l) ++ rest = low n y ++ (entL l ++ rest) := by unfold entL; simp
    simp only [List.map_cons, rdAll]
    rw [he, num_low n y h1.1 h1.2 hy]
    simp only
    rw [rdAll_ent l rest (fun z hz => hn z (List.mem_cons_of_mem _ hz)) hok'.2]
/-- The c bytes of the i-th of many that have c each. -/
theorem flat_take {α : Type} (f : α → List UInt8) (c : Nat) (hc : ∀ x, (f x).length = c) : ∀ (l : List α) (i : Nat) (h : i < l.length), ((l.flatMap f).drop (c * i)).take c = f l[i]
  | x :: l, 0, h => by simp [List.flatMap_cons, List.take_append_of_le_length, hc x, List.take_of_length_le]
  | x :: l, i + 1, h => by
    have e : c * (i + 1) - c = c * i := by rw [Nat.mul_succ]; omega
    have e2 : c ≤ c * (i + 1) := Nat.le_mul_of_pos_right c (by omega)
    rw [List.flatMap_cons, List.drop_append, hc x, e, List.drop_of_length_le (by rw [hc x]; exact e2), List.nil_append]
    exact flat_take f c hc l i (by simpa using h)
end Go.Proofs.YtdepejneliacpaaGreatDoor.en
