/- strings.Builder: copyCheck, WriteString. -/
import Derived.Test.YtbmhjojlbmbpkaaRows
import Derived.WalkKit
import Derived.ProofKit
import Derived.OpenShut
import Derived.Handy
import Derived.Deep.LoopGhost
import Derived.Lib.Hide
import Derived.Lib.Strings
import Derived.SizedLaws
import Derived.Maps.Own
import Derived.Maps.OwnOps
import Derived.Maps.OwnSet
import Derived.Maps.RangeWalk
import Derived.Deep.QuietTactic
import Derived.BigQuiet
import Derived.Deep.RegionHeld3
import Derived.Lib.ConvBytes
import Derived.Lib.AppendZeros
import Derived.Lib.AppendZerosOnto
import Derived.Lib.LazyBuf
import Derived.Shelf.Abstract
import Derived.LaidEql
import Derived.Lib.SliceRun
import Derived.StillTailTactics
import Derived.Deep.Slices
import Derived.Shelf.SlIter.Nil
import Derived.Ground.GgzProg
import Derived.Shelf.SortM.Plain
import Derived.Shelf.SortM.SortNone
import Derived.Ground.SlgmProg
import Derived.Shelf.SlicesE.DeleteFunc
import Derived.Ground.SlgfProg
import Derived.Test.YtbmhjojlbmbpkaaProg
import Derived.Shelf.Strings.Builder1
import Derived.Shelf.Small.Bits
import Derived.Shelf.Strings.BuilderF
import Derived.Shelf.Strings.BuilderK
import Derived.Shelf.Strconv.Itoa0
import Derived.Shelf.Sort.Plain
import Derived.Shelf.Strings.Prefix
import Derived.Shelf.Strings.BuilderCap
import Derived.Shelf.Slices.In.SortNone
import Derived.Shelf.SlicesE.IndexFunc
import Derived.Laws.MakeOwn
import Derived.Lib.Builder
import Derived.Lib.AppendStr
import Derived.Test.YtbmhjojlbmbpkaaPk14
namespace Go.Proofs.Ytbmhjojlbmbpkaa.oc
open Go.ChangeShapes Go.WideShapes Go.ChangeAt Go.RowKit

abbrev BT : TypeId := 116
theorem sizeB : (Try.prog.info? BT).map (·.size) = some 2 := by kernel_rfl
theorem liesB : liesAt Try.prog Try.prog.depth BT (2 / Try.prog.cellsOf BT) 0 BT 1 = true := by kernel_rfl
theorem infoU8 : (Try.prog.info? 5).map (fun i => (i.zero, i.size, i.bytes)) = some (some (.int .u8 0), 1, 1) := by kernel_rfl
set_option maxHeartbeats 1000000 in
set_option maxRecDepth 100000 in
theorem copyCheck_any (B b : Nat) (bs : List Value) (w : World) (h : Lib.IsBuilder BT 5 B b bs w) :
    Calls Try.prog 79 #[.pointer (some ⟨b, 0, none⟩)] w fun e w' => e = .returned (.tuple #[]) ∧ Lib.BuilderAt BT 5 B b (.pointer (some ⟨b, 0, none⟩)) bs w' ∧ Below B w w' := by
  obtain ⟨j, hj, hjs⟩ := Option.map_eq_some_iff.1 sizeB
  rcases h with h | h
  · have H := box h
    have h0 := h.cell0
    have hfz := h.frozen0
    have hsh := box h.shape
    clear h
    go_enter Try.func79, Try.ntmps79
    go_wp2
    rw [Lib.run_to_unsafe w ⟨b, 0, none⟩ Try.underlying114 Try.underlying144 hj (by rw [hjs]; decide) hsh.out (Nat.zero_lt_succ 1)]
    simp only [Result.andThen]
    rw [Oper.upon_value]
    go_wp2
    rw [run_callFunc_extern Try.func91 (by kernel_rfl) (by kernel_rfl) (by kernel_rfl) (e := Extern.AbiNoEscape.same) (by kernel_rfl)]
    rw [Lib.run_noEscape]
    simp only [Result.andThen]
    rw [Oper.upon_value]
    go_wp2
    rw [Lib.run_from_unsafe w ⟨b, 0, none⟩ Try.underlying144 Try.underlying114 hj hsh.out liesB]
    simp only [Result.andThen]
    rw [Oper.upon_value]
    go_wp2
    go_end0
    exact ⟨rfl, H.out.used _, (Below.refl B w).setCell (p := ⟨b, 0, none⟩) H.out.1 _⟩
  · have H := box h
    have h0 := h.cell0
    clear h
    go_enter Try.func79, Try.ntmps79
    go_wp2
    rw [Lib.run_neq_ptr_same w _ Try.underlying114 hj]
    go_wp2
    go_end0
    exact ⟨rfl, H.out, Below.refl B _⟩

set_option maxHeartbeats 2000000 in
set_option maxRecDepth 100000 in
theorem WriteString_any (B b : Nat) (bs : List Value) (s : ByteArray) (w : World) (h : Lib.IsBuilder BT 5 B b bs w) (hlen : bs.length + s.size ≤ 140737488355328) (hBw : B ≤ w.heap.size) :
    Calls Try.prog 68 #[.pointer (some ⟨b, 0, none⟩), .string s] w fun e w' => e = .returned (.tuple #[.int .i64 s.size, .nilIface]) ∧ Lib.BuilderAt BT 5 B b (.pointer (some ⟨b, 0, none⟩)) (bs ++ Lib.strCells s) w' ∧ Below B w w' := by
  obtain ⟨i0, hi, hz0, hz1, hz2⟩ := info_parts infoU8
  have hcc := box (copyCheck_any B b bs w h)
  clear h
  go_enter Try.func68, Try.ntmps68
  go_wp2_with fail
  refine hcc.out.mono ?_
  rintro e w1 ⟨rfl, h1, hb1⟩
  obtain ⟨hB, v, hbk, hown, hne⟩ := h1
  have c0 : w1.cell? ⟨b, 0, none⟩ = some (.pointer (some ⟨b, 0, none⟩)) := cell_of hbk 0
  have c1 : w1.cell? ⟨b, 1, none⟩ = some v := cell_of hbk 1
  go_wp2_with (at_builtin; refine Lib.wpList_append_own_string _ rfl _ _ 43 9 rfl B 5 i0 Try.underlying43 Try.underlying9 hi hz0 hz1 hz2 _ _ _ rfl hown s rfl ?c3 ?c4 ?c5 ?_)
  case c3 => unfold maxLen; omega
  case c4 => omega
  case c5 => have := hb1.size; omega
  intro v' w2 hown' hgrow _
  have hlt : b < w1.heap.size := heap_lt hbk
  have hb2 : w2.heap[b]? = some (.cells #[.pointer (some ⟨b, 0, none⟩), v] BT (0, 0)) := by
    rw [hgrow.block b hlt (fun e => hne e.symm)]
    exact hbk
  have d0 : w2.cell? ⟨b, 0, none⟩ = some (.pointer (some ⟨b, 0, none⟩)) := cell_of hb2 0
  have d1 : w2.cell? ⟨b, 1, none⟩ = some v := cell_of hb2 1
  have f1 : w2.frozen? ⟨b, 1, none⟩ = false := free_of hb2 1
  obtain ⟨ao, n', cap, rfl⟩ : ∃ ao n' cap, v' = .slice ao n' cap := by
    rcases hown'.2 with ⟨hv, _⟩ | ⟨g, cap, cur, hv, _⟩
    · exact ⟨_, _, _, hv⟩
    · exact ⟨_, _, _, hv⟩
  go_wp2
  go_ret2
  refine ⟨rfl, ?_, ?_⟩
  · exact Lib.BuilderAt.put (T := BT) (e := 5) hB hb2 (bs' := bs ++ Lib.strCells s) (by simpa [Lib.strCells_length] using hown') (by decide)
  · exact (hb1.grown hgrow (by have := hb1.size; omega) (fun k hk => (hown.lt k hk).1)).setCell (p := ⟨b, 1, none⟩) hB _
end Go.Proofs.Ytbmhjojlbmbpkaa.oc

/- Layer 1: numbers' bytes. -/
namespace Go.Proofs.Ytbmhjojlbmbpkaa.oc
open Go.ChangeShapes Go.WideShapes Go.ChangeAt Go.RowKit

def fitsN (n : Nat) (x : Int) : Bool := decide (0 ≤ x) && decide (x < 256 ^ n)
def lowN (n : Nat) (l : List Int) : List UInt8 := l.flatMap fun x => low n x.toNat
/-- Numbers' bytes, and the error's number. -/
def numB (n : Int) (l : List Int) : ByteArray × Int :=
  if n < 1 ∨ 7 < n then (⟨#[]⟩, 1) else if l.all (fitsN n.toNat) then (⟨(lowN n.toNat l).toArray⟩, 0) else (⟨#[]⟩, 2)
theorem fits_div (m : Nat) (h1 : 1 ≤ m) (h7 : m ≤ 7) (x : Int) : fitsN m x = (decide (0 ≤ x) && !(x / 2 ^ (8 * m) != 0)) := by
  have hc : m = 1 ∨ m = 2 ∨ m = 3 ∨ m = 4 ∨ m = 5 ∨ m = 6 ∨ m = 7 := by omega
  unfold fitsN
  rw [Bool.eq_iff_iff]
  rcases hc with rfl | rfl | rfl | rfl | rfl | rfl | rfl <;> simp <;> omega
theorem low_size (n x : Nat) : (⟨(low n x).toArray⟩ : ByteArray).size = n := by show (low n x).toArray.size = n; simp [low_length]
theorem lowN_length (n : Nat) (l : List Int) : (lowN n l).length = l.length * n := by
  unfold lowN
  induction l with
  | nil => simp
  | cons x l ih => rw [List.flatMap_cons, List.length_append, low_length, ih, List.length_cons, Nat.succ_mul, Nat.add_comm]
theorem lowN_snoc (n : Nat) (l : List Int) (k : Nat) (hk : k < l.length) : lowN n (l.take (k + 1)) = lowN n (l.take k) ++ low n l[k].toNat := by
  unfold lowN; rw [List.take_succ_eq_append_getElem hk, List.flatMap_append]; simp
theorem _root_.Go.Lib.BuilderAt.calm' {T e : TypeId} {B b : Nat} {p : Value} {bs : List Value} {w w' : World} (h : Lib.BuilderAt T e B b p bs w) (hc : Calm w w') : Lib.BuilderAt T e B b p bs w' := by
  obtain ⟨hB, v, hb, hrow, hne⟩ := h
  refine ⟨hB, v, heap_calm hc hb, ?_, hne⟩
  obtain ⟨h1, h2⟩ := hrow
  refine ⟨h1, ?_⟩
  rcases h2 with h2 | ⟨g, cap, cur, e1, r1, r2, r3⟩
  · exact .inl h2
  · exact .inr ⟨g, cap, cur, e1, r1, heap_calm hc r2, r3⟩
theorem _root_.Go.Lib.IsBuilder.calm' {T e : TypeId} {B b : Nat} {bs : List Value} {w w' : World} (h : Lib.IsBuilder T e B b bs w) (hc : Calm w w') : Lib.IsBuilder T e B b bs w' := h.imp (·.calm' hc) (·.calm' hc)
/-- Numbers lie under a slice's address. -/
def IntsAt (w : World) (a : Option Addr) (l : List Int) : Prop := ∀ k (hk : k < l.length), ∃ b off, a = some ⟨b, off, none⟩ ∧ b < w.heap.size ∧ w.cell? ⟨b, off + k, none⟩ = some (.int .i64 l[k])
theorem IntsAt.below {w w' : World} {a : Option Addr} {l : List Int} {B : Nat} (h : IntsAt w a l) (hB : w.heap.size = B) (hc : Below B w w') : IntsAt w' a l := fun k hk => by
  obtain ⟨b, off, e, hb, hcell⟩ := h k hk
  exact ⟨b, off, e, Nat.lt_of_lt_of_le hb (by have := hc.size; omega), by rw [hc.cell (p := ⟨b, off + k, none⟩) (by show b < B; omega)]; exact hcell⟩

set_option maxRecDepth 100000 in
set_option maxHeartbeats 4000000 in
theorem Num_any (n : Int) (a : Option Addr) (cap : Nat) (l : List Int) (w : World) (h : IntsAt w a l) (hl : l.length ≤ 1000000) (hi : ∀ x ∈ l, -9223372036854775808 ≤ x ∧ x ≤ 9223372036854775807) :
    Calls Try.prog 54 #[.int .i64 n, .slice a l.length cap] w fun e w' => e = .returned (.tuple #[.string (numB n l).1, .int .i64 (numB n l).2]) ∧ Calm w w' := by
  by_cases hn : n < 1 ∨ 7 < n
  · have hr := box (show numB n l = (⟨#[]⟩, 1) by unfold numB; rw [if_pos hn])
    rw [hr.out]
    have hn' : n < 1 ∨ (1 ≤ n ∧ 7 < n) := by omega
    clear hn
    rcases hn' with h1 | ⟨h1, h2⟩
    all_goals
      go_enter Try.func54, Try.ntmps54
      go_wp2_with fail
      go_ret2
      exact ⟨rfl, .refl _⟩
  · obtain ⟨m, rfl⟩ : ∃ m : Nat, n = m := ⟨n.toNat, by omega⟩
    have hm1 : 1 ≤ m := by omega
    have hm7 : m ≤ 7 := by omega
    have hr := box (show numB m l = if l.all (fitsN m) then (⟨(lowN m l).toArray⟩, 0) else (⟨#[]⟩, 2) by unfold numB; rw [if_neg hn]; rfl)
    have H := box h
    have Hi := box hi
    clear h hi hn
    go_enter Try.func54, Try.ntmps54
    go_wp2_with fail
    go_loopw [17] (fun i wr => ∃ k : Nat, k ≤ l.length ∧ i = .int .i64 k ∧ (l.take k).all (fitsN m) = true ∧ Lib.IsBuilder BT 5 w.heap.size w.heap.size (Lib.byteCells (lowN m (l.take k))) wr ∧ Calm w wr) (fun i _ => l.length - (intOf i).toNat)
    case atStart =>
      exact ⟨0, Nat.zero_le _, rfl, rfl, .inl ⟨Nat.le_refl _, .slice none 0 0, heap_new w _, World.ownsRow_nil _ _ _ _, by simp [Value.ownBlock]⟩, (Calm.refl w).alloc _⟩
    case round =>
      obtain ⟨k, hk, rfl, hall, hB, hC⟩ := hrel
      have Hall := box hall
      have HB := box hB
      have HC := box hC
      clear hall hB hC
      by_cases hlt : k < l.length
      · obtain ⟨b, off, rfl, hb, hcell⟩ := H.out.below rfl HC.out k hlt
        obtain ⟨x, hx⟩ : ∃ x, l[k] = x := ⟨_, rfl⟩
        obtain ⟨hx1, hx2⟩ := Hi.out l[k] (List.getElem_mem hlt)
        have hsn := box (lowN_snoc m l k hlt)
        have has := box (show (l.take (k + 1)).all (fitsN m) = ((l.take k).all (fitsN m) && fitsN m l[k]) by rw [List.take_succ_eq_append_getElem hlt, List.all_append]; simp)
        rw [hx] at hcell hx1 hx2 hsn has
        have q8 : IntKind.i64.wrap (8 * (m : Int)) = 8 * m := IntWalk.i64_in _ (by omega)
        have hfd := box (fits_div m hm1 hm7 x)
        have hbad := box (fun (hf : fitsN m x = false) => (show numB m l = (⟨#[]⟩, 2) by
          rw [hr.out, if_neg]
          rw [List.all_eq_true]
          intro hh
          have := hh l[k] (List.getElem_mem hlt)
          rw [hx, hf] at this
          cases this))
        have hlen := box (lowN_length m (l.take k))
        clear hx
        go_wp2_with fail
        all_goals first
          | (have hh : x < 0 ∨ (x / 2 ^ (8 * m) != 0) = true := by first | assumption | exact .inl (by assumption)
             have hb2 := hbad.out (by rw [hfd.out]; rcases hh with h | h; rw [decide_eq_false (by omega)]; rfl; rw [h]; simp)
             go_ret2
             exact ⟨ret_tup2 (by rw [hb2]; rfl) (by rw [hb2]; rfl), HC.out⟩)
          | skip
        have hok := box (show fitsN m x = true by
          have hh : 0 ≤ x ∧ (x / 2 ^ (8 * m) != 0) = false := by assumption
          rw [hfd.out, hh.2, decide_eq_true hh.1]; rfl)
        have hx0 : 0 ≤ x := by have := hok.out; unfold fitsN at this; simp at this; exact this.1
        obtain ⟨y, rfl⟩ : ∃ y : Nat, x = y := ⟨x.toNat, by omega⟩
        refine (put_any m y _ (by omega) (by omega)).mono ?_
        rintro e w2 ⟨rfl, hc2⟩
        have HB2 := box (HB.out.calm' hc2)
        have HC2 := box (HC.out.trans hc2)
        clear hc2
        go_wp2_with fail
        refine (WriteString_any w.heap.size w.heap.size _ ⟨(low m y).toArray⟩ _ HB2.out (by rw [Lib.byteCells_length, hlen.out, low_size, List.length_take]; have : min k l.length * m ≤ 1000000 * 7 := Nat.mul_le_mul (by omega) (by omega); omega) (by exact HC2.out.size)).mono ?_
        rintro e w3 ⟨rfl, hb3, hc3⟩
        have HB3 := box hb3
        have HC3 := box (Below.trans HC2.out hc3)
        clear hb3 hc3
        go_wp2_with fail
        go_roundw
        case rel =>
          refine ⟨k + 1, by omega, by go_num, by rw [has.out, Hall.out, hok.out]; rfl, ?_, HC3.out⟩
          rw [hsn.out, Lib.byteCells_append]
          exact .inr HB3.out
        case measure => simp [intOf]; omega
      · obtain rfl : k = l.length := by omega
        have hr := box (show numB m l = (⟨(lowN m l).toArray⟩, 0) by
          have := Hall.out
          rw [List.take_length] at this
          rw [hr.out, if_pos this])
        have HB := box (show Lib.IsBuilder BT 5 w.heap.size w.heap.size (Lib.byteCells (lowN m l)) wr by have := HB.out; rw [List.take_length] at this; exact this)
        go_wp2_with fail
        refine (Try.Builder_String_any w.heap.size w.heap.size _ wr HB.out (by exact HC.out.size)).mono ?_
        rintro e w2 ⟨rfl, hc2⟩
        have HC2 := box (Below.trans HC.out hc2)
        clear hc2
        go_wp2_with fail
        go_ret2
        exact ⟨ret_tup2 (by rw [hr.out]; rfl) (by rw [hr.out]; rfl), HC2.out⟩
end Go.Proofs.Ytbmhjojlbmbpkaa.oc

/- Layer 15: a wheel. -/
namespace Go.Proofs.Ytbmhjojlbmbpkaa.wh
open Go.ChangeShapes Go.WideShapes Go.ChangeAt Go.RowKit
open Go.Proofs.Ytbmhjojlbmbpkaa.dk Go.Proofs.Ytbmhjojlbmbpkaa.oc

theorem err_cases (r : Int) : r = 0 ∨ ((r == 0) = false ∧ (r != 0) = true ∧ Box (r ≠ 0)) := by
  by_cases h : r = 0
  · exact .inl h
  · exact .inr ⟨beq_eq_false_iff_ne.2 h, bne_iff_ne.2 h, box h⟩

abbrev wslots : ByteArray := ⟨#[119, 45, 115, 108, 111, 116, 115]⟩
abbrev whead : ByteArray := ⟨#[119, 45]⟩
def noughts (n : Nat) : ByteArray := ⟨(List.replicate n (0 : UInt8)).toArray⟩
/-- All files of a head go. -/
def cleared (D : DiskS) (hd : ByteArray) : Int × DiskS := if D.names hd = [] then (0, D) else D.delete (D.names hd)
def wnew (D : DiskS) (b : Nat) : Int × DiskS :=
  if (cleared D whead).1 ≠ 0 then cleared D whead else
  if ((cleared D whead).2.create wslots b).1 ≠ 0 then (cleared D whead).2.create wslots b else
  ((cleared D whead).2.create wslots b).2.write wslots 0 (noughts 96)

/-- A wheel lies at q, over the disk at p; its hand. -/
def WheelAt (w : World) (q p : Nat) (t : Int) : Prop := w.heap[q]? = some (.cells #[ptrTo p, .int .i64 t] 92 (0, 0))
theorem WheelAt.calm {w w' : World} {q p : Nat} {t : Int} (h : WheelAt w q p t) (hc : Calm w w') : WheelAt w' q p t := heap_calm hc h
theorem WheelAt.keep {w w' : World} {q p : Nat} {t : Int} {F : Nat → Prop} (h : WheelAt w q p t) (k : Keeps F w w') (hq : ¬ F q) : WheelAt w' q p t := (k.block q (heap_lt h) hq).trans h
theorem WheelAt.cells {w : World} {q p : Nat} {t : Int} (h : WheelAt w q p t) : w.cell? ⟨q, 0, none⟩ = some (ptrTo p) ∧ w.cell? ⟨q, 1, none⟩ = some (.int .i64 t) ∧ w.frozen? ⟨q, 0, none⟩ = false ∧ w.frozen? ⟨q, 1, none⟩ = false ∧ q < w.heap.size :=
  ⟨cell_of h 0, cell_of h 1, free_of h 0, free_of h 1, heap_lt h⟩

def WNew (D : DiskS) (p : Nat) (F : Nat → Prop) (n : Nat) (t : Int) (w : World) (e : Ending) (w' : World) : Prop :=
  ∃ b v F', w.heap.size ≤ b ∧ e = .returned (.tuple #[v, .int .i64 (wnew D b).1]) ∧ DiskOk w' p (wnew D b).2 F' (n + 1) ∧ Step F w F' w' ∧
    (((wnew D b).1 = 0 ∧ ∃ q, v = ptrTo q ∧ WheelAt w' q p t ∧ w.heap.size ≤ q ∧ ¬ F' q) ∨ ((wnew D b).1 ≠ 0 ∧ v = .pointer none))

theorem NewBad_any (v : Value) (t : Int) (w : World) (h : v = .pointer none ∨ (∃ p, v = ptrTo p ∧ (t < 0 ∨ 1099511627776 < t))) :
    Calls Try.prog 21 #[v, .int .i64 t] w fun e w' => e = .returned (.tuple #[.pointer none, .int .i64 1]) ∧ w = w' := by
  rcases h with rfl | ⟨p, rfl, h⟩
  · go_enter Try.func21, Try.ntmps21
    go_wp2
    go_ret2
    exact ⟨rfl, rfl⟩
  · have h' : t < 0 ∨ (0 ≤ t ∧ 1099511627776 < t) := by omega
    clear h
    rcases h' with h | ⟨h1, h2⟩
    all_goals
      go_enter Try.func21, Try.ntmps21
      go_wp2
      go_ret2
      exact ⟨rfl, rfl⟩

theorem infoByte : (Try.prog.info? 5).map (fun i => (i.zero, i.size, i.bytes)) = some (some (.int .u8 0), 1, 1) := by kernel_rfl
/-- string(make([]byte, n)), the two runs. -/
theorem made_string (w : World) (n : Nat) (z : Int) (hz : z = n) (hn : n ≤ 1000000) : (Instr.makeSlice 43 (.int .i64 z) (.int .i64 z)).run Try.prog w = .ok (.slice (some ⟨w.heap.size, 0, none⟩) n n) (w.alloc (.cells (madeCells #[Value.int .u8 0] n) 5)) ∧
    (convert 43 9 (.slice (some ⟨w.heap.size, 0, none⟩) n n)).run Try.prog (w.alloc (.cells (madeCells #[Value.int .u8 0] n) 5)) = .ok (.string (noughts n)) (w.alloc (.cells (madeCells #[Value.int .u8 0] n) 5)) := by
  subst hz
  obtain ⟨i0, hi, hz0, hz1, hz2⟩ := info_parts infoByte
  have hmk := run_make (P := Try.prog) w 43 5 i0 _ Try.underlying43 hi hz0 .i64 .i64 n n (by omega) (Int.le_refl _) (by rw [hz2]; omega) (by omega)
  simp only [hz1, Int.toNat_natCast, Nat.mul_one] at hmk
  have hback := conv_string (P := Try.prog) _ 43 9 5 Try.underlying43 Try.underlying5 Try.underlying9 (made_bytes w n) n
  rw [List.length_replicate] at hback
  exact ⟨hmk, hback⟩

set_option maxRecDepth 100000 in
set_option maxHeartbeats 8000000 in
theorem New_any {p n : Nat} {D : DiskS} {F : Nat → Prop} (t : Int) (w : World) (h : DiskOk w p D F n) (hn : n ≤ 999999) (ht : 0 ≤ t ∧ t ≤ 1099511627776) (hs : ∀ f ∈ D.files, f.name.size ≤ maxLen) (hl : D.files.length ≤ 1000000) :
    Calls Try.prog 21 #[ptrTo p, .int .i64 t] w (WNew D p F n t w) := by
  obtain ⟨ht0, ht1⟩ := ht
  have H := box h
  have hlist := box (List_any whead w h.lies hs hl)
  have hnl : (D.names whead).length ≤ 1000000 := by
    unfold DiskS.names DiskS.namesL
    rw [List.length_map]
    refine Nat.le_trans (List.length_filter_le _ _) ?_
    simpa using hl
  have Hnl := box hnl
  clear h hs hl hnl
  obtain ⟨l, hl⟩ : ∃ l, D.names whead = l := ⟨_, rfl⟩
  have hclr := box (show cleared D whead = if l = [] then (0, D) else D.delete l by unfold cleared; rw [hl])
  unfold ListDone at hlist
  rw [hl] at hlist Hnl
  clear hl
  cases l with
  | nil =>
    have hcl := box (show cleared D whead = (0, D) by rw [hclr.out, if_pos rfl])
    go_enter Try.func21, Try.ntmps21
    go_wp2_with fail
    refine hlist.out.mono ?_
    rintro e w1 ⟨v, rfl, hv, hc1, _⟩
    obtain ⟨la, lcap, rfl, _⟩ := hv.uni
    have H1 := box (H.out.calm hc1)
    have S1 := box (Step.of_calm (F := F) hc1)
    clear hv hc1
    obtain ⟨E1, hE1⟩ : ∃ E, D = E := ⟨_, rfl⟩
    rw [hE1] at H1
    have hcl := box (show cleared D whead = (0, E1) by rw [hcl.out, hE1])
    clear hE1
    obtain ⟨F1, hF1⟩ : ∃ G, F = G := ⟨_, rfl⟩
    rw [hF1] at H1
    have S1 : Box (Step F w F1 w1) := by rw [hF1] at S1 ⊢; exact S1
    clear hF1
    go_wp2_with fail
    refine (Create_ok wslots w1 H1.out).mono ?_
    rintro e w2 ⟨b, hb, h2⟩
    obtain ⟨⟨r2, E2⟩, hr2⟩ : ∃ r, E1.create wslots b = r := ⟨_, rfl⟩
    obtain ⟨rfl, F2, h2, hs2⟩ := h2.at hr2
    have H2 := box h2
    have S2 := box (S1.out.trans hs2)
    have Hr2 := box hr2
    have Hb := box (show w.heap.size ≤ b from Nat.le_trans S1.out.keeps.size hb)
    clear h2 hs2 hb hr2
    rcases err_cases r2 with rfl | ⟨x1, x2, x3⟩
    · obtain ⟨hmk, hcv⟩ := made_string w2 96 96 rfl (by decide)
      have hcm := box ((Calm.refl w2).alloc (.cells (madeCells #[Value.int .u8 0] 96) 5))
      go_wp2_with fail
      refine (Write_ok wslots (noughts 96) 0 _ (H2.out.calm hcm.out) (by omega) (by decide)).mono ?_
      intro e w3 h3
      obtain ⟨⟨r3, E3⟩, hr3⟩ : ∃ r, E2.write wslots 0 (noughts 96) = r := ⟨_, rfl⟩
      obtain ⟨rfl, F3, h3, hs3⟩ := h3.at hr3
      have H3 := box h3
      have S3 := box ((S2.out.calm hcm.out).trans hs3)
      have hw := box (show wnew D b = (r3, E3) by unfold wnew; rw [hcl.out]; simp only [ne_eq, not_true, if_false]; rw [Hr2.out]; simp only [not_true, if_false]; exact hr3)
      clear h3 hs3 hr3 hmk hcv
      rcases err_cases r3 with rfl | ⟨x1, x2, x3⟩
      · have hnew := box (heap_new w3 (.cells #[ptrTo p, .int .i64 t] 92))
        go_wp2_with fail
        go_ret2
        refine ⟨b, _, F3, Hb.out, ret_tup2 rfl (by rw [hw.out]; rfl), by rw [hw.out]; exact H3.out.calm ((Calm.refl w3).alloc _), S3.out.calm ((Calm.refl w3).alloc _), .inl ⟨by rw [hw.out], w3.heap.size, rfl, hnew.out, S3.out.keeps.size, fun hf => ?_⟩⟩
        have := H3.out.foot_lt _ hf
        omega
      · go_wp2_with fail
        go_ret2
        exact ⟨b, _, F3, Hb.out, ret_tup2 rfl (by rw [hw.out]; rfl), by rw [hw.out]; exact H3.out, S3.out, .inr ⟨by rw [hw.out]; exact x3.out, rfl⟩⟩
    · have hw := box (show wnew D b = (r2, E2) by unfold wnew; rw [hcl.out]; simp only [ne_eq, not_true, if_false]; rw [Hr2.out]; simp only [x3.out, not_false_eq_true, if_true])
      go_wp2_with fail
      go_ret2
      exact ⟨b, _, F2, Hb.out, ret_tup2 rfl (by rw [hw.out]; rfl), by rw [hw.out]; exact H2.out.mono (by omega), S2.out, .inr ⟨by rw [hw.out]; exact x3.out, rfl⟩⟩
  | cons x l =>
    have hcl0 := box (show cleared D whead = D.delete (x :: l) by rw [hclr.out, if_neg (by simp)])
    have hlen : (x :: l).length = l.length + 1 := rfl
    go_enter Try.func21, Try.ntmps21
    go_wp2_with fail
    refine hlist.out.mono ?_
    rintro e w0 ⟨v, rfl, hv, hc1, hfr⟩
    obtain ⟨la, lcap, rfl, _⟩ := hv.uni
    have Hv := box hv
    have H0 := box (H.out.calm hc1)
    have S0 := box (Step.of_calm (F := F) hc1)
    have hap := box (show Apart (.slice la (x :: l).length lcap) F from fun a n' c' e _ hf => by
      have := hfr a n' c' e
      have := H.out.foot_lt _ hf
      omega)
    clear hv hc1 hfr
    rw [hlen]
    go_wp2_with fail
    refine (Delete_ok (.slice la (l.length + 1) lcap) (x :: l) w0 H0.out (by omega) Hv.out hap.out (by have := Hnl.out; omega)).mono ?_
    intro e w1 h1
    obtain ⟨⟨r1, E1⟩, hr1⟩ : ∃ r, D.delete (x :: l) = r := ⟨_, rfl⟩
    obtain ⟨rfl, F1, h1, hs1⟩ := h1.at hr1
    have H1 := box h1
    have S1 := box (S0.out.trans hs1)
    have hcl1 := box (hcl0.out.trans hr1)
    clear h1 hs1 hr1
    rcases err_cases r1 with rfl | ⟨y1, y2, y3⟩
    · have hcl := hcl1
      go_wp2_with fail
      refine (Create_ok wslots w1 H1.out).mono ?_
      rintro e w2 ⟨b, hb, h2⟩
      obtain ⟨⟨r2, E2⟩, hr2⟩ : ∃ r, E1.create wslots b = r := ⟨_, rfl⟩
      obtain ⟨rfl, F2, h2, hs2⟩ := h2.at hr2
      have H2 := box h2
      have S2 := box (S1.out.trans hs2)
      have Hr2 := box hr2
      have Hb := box (show w.heap.size ≤ b from Nat.le_trans S1.out.keeps.size hb)
      clear h2 hs2 hb hr2
      rcases err_cases r2 with rfl | ⟨x1, x2, x3⟩
      · obtain ⟨hmk, hcv⟩ := made_string w2 96 96 rfl (by decide)
        have hcm := box ((Calm.refl w2).alloc (.cells (madeCells #[Value.int .u8 0] 96) 5))
        go_wp2_with fail
        refine (Write_ok wslots (noughts 96) 0 _ (H2.out.calm hcm.out) (by omega) (by decide)).mono ?_
        intro e w3 h3
        obtain ⟨⟨r3, E3⟩, hr3⟩ : ∃ r, E2.write wslots 0 (noughts 96) = r := ⟨_, rfl⟩
        obtain ⟨rfl, F3, h3, hs3⟩ := h3.at hr3
        have H3 := box h3
        have S3 := box ((S2.out.calm hcm.out).trans hs3)
        have hw := box (show wnew D b = (r3, E3) by unfold wnew; rw [hcl.out]; simp only [ne_eq, not_true, if_false]; rw [Hr2.out]; simp only [not_true, if_false]; exact hr3)
        clear h3 hs3 hr3 hmk hcv
        rcases err_cases r3 with rfl | ⟨x1, x2, x3⟩
        · have hnew := box (heap_new w3 (.cells #[ptrTo p, .int .i64 t] 92))
          go_wp2_with fail
          go_ret2
          refine ⟨b, _, F3, Hb.out, ret_tup2 rfl (by rw [hw.out]; rfl), by rw [hw.out]; exact H3.out.calm ((Calm.refl w3).alloc _), S3.out.calm ((Calm.refl w3).alloc _), .inl ⟨by rw [hw.out], w3.heap.size, rfl, hnew.out, S3.out.keeps.size, fun hf => ?_⟩⟩
          have := H3.out.foot_lt _ hf
          omega
        · go_wp2_with fail
          go_ret2
          exact ⟨b, _, F3, Hb.out, ret_tup2 rfl (by rw [hw.out]; rfl), by rw [hw.out]; exact H3.out, S3.out, .inr ⟨by rw [hw.out]; exact x3.out, rfl⟩⟩
      · have hw := box (show wnew D b = (r2, E2) by unfold wnew; rw [hcl.out]; simp only [ne_eq, not_true, if_false]; rw [Hr2.out]; simp only [x3.out, not_false_eq_true, if_true])
        go_wp2_with fail
        go_ret2
        exact ⟨b, _, F2, Hb.out, ret_tup2 rfl (by rw [hw.out]; rfl), by rw [hw.out]; exact H2.out.mono (by omega), S2.out, .inr ⟨by rw [hw.out]; exact x3.out, rfl⟩⟩
    · have hw := box (show ∀ b, wnew D b = (r1, E1) by intro b; unfold wnew; rw [hcl1.out]; simp only [ne_eq, y3.out, not_false_eq_true, if_true])
      go_wp2_with fail
      go_ret2
      exact ⟨w.heap.size, _, F1, Nat.le_refl _, ret_tup2 rfl (by rw [hw.out]; rfl), by rw [hw.out]; exact H1.out.mono (by omega), S1.out, .inr ⟨by rw [hw.out]; exact y3.out, rfl⟩⟩
end Go.Proofs.Ytbmhjojlbmbpkaa.wh

/- Layer 15: a wheel's slots and its hand. -/
namespace Go.Proofs.Ytbmhjojlbmbpkaa.wh
open Go.ChangeShapes Go.WideShapes Go.ChangeAt Go.RowKit
open Go.Proofs.Ytbmhjojlbmbpkaa.dk Go.Proofs.Ytbmhjojlbmbpkaa.oc

theorem _root_.Go.Proofs.Ytbmhjojlbmbpkaa.Step.apart {F F' : Nat → Prop} {w w' : World} (s : Step F w F' w') {q : Nat} (hq : ¬ F q) (lt : q < w.heap.size) : ¬ F' q := fun h => by
  rcases s.foot q h with h | h
  · exact hq h
  · omega

def slotBad (s : Int) : Bool := decide (s < 0) || decide (16 ≤ s)
theorem bars_any (q p : Nat) (t s : Int) (w : World) (h : WheelAt w q p t) : Calls Try.prog 53 #[ptrTo q, .int .i64 s] w fun e w' => e = .returned (.int .i64 (if slotBad s then 2 else 0)) ∧ w = w' := by
  clear h
  by_cases h1 : s < 0
  · have hb : slotBad s = true := by unfold slotBad; rw [decide_eq_true h1]; rfl
    rw [hb]
    clear hb
    go_enter Try.func53, Try.ntmps53
    go_wp2
    go_ret
    exact ⟨rfl, rfl⟩
  · by_cases h2 : 16 ≤ s
    · have hb : slotBad s = true := by unfold slotBad; rw [decide_eq_true h2]; simp
      rw [hb]
      clear hb
      go_enter Try.func53, Try.ntmps53
      go_wp2
      go_ret
      exact ⟨rfl, rfl⟩
    · have hb : slotBad s = false := by unfold slotBad; rw [decide_eq_false h1, decide_eq_false h2]; rfl
      rw [hb]
      clear hb
      go_enter Try.func53, Try.ntmps53
      go_wp2
      go_ret
      exact ⟨rfl, rfl⟩
theorem barsNil_any (s : Int) (w : World) : Calls Try.prog 53 #[.pointer none, .int .i64 s] w fun e w' => e = .returned (.int .i64 1) ∧ w = w' := by
  go_enter Try.func53, Try.ntmps53
  go_wp2
  go_ret
  exact ⟨rfl, rfl⟩

/-- A slot's last mark, and the error's number. -/
def whd (D : DiskS) (s : Int) : Int × Int :=
  if slotBad s then (0, 2) else if (D.read wslots (6 * s) 6).2 ≠ 0 then (0, (D.read wslots (6 * s) 6).2) else (((⟨(D.read wslots (6 * s) 6).1, 0⟩ : Rdr).num 6).1, 0)
theorem read_size {D : DiskS} (hg : dk.Good D) (s : ByteArray) (k m : Int) : (D.read s k m).1.size ≤ 16777216 := by
  have := all_le hg s
  unfold DiskS.read
  split; exact Nat.zero_le _
  split; exact Nat.zero_le _
  simp only [ByteArray.size_extract]
  omega
set_option maxRecDepth 100000 in
set_option maxHeartbeats 2000000 in
theorem Head_any {p n : Nat} {D : DiskS} {F : Nat → Prop} (q : Nat) (t s : Int) (w : World) (h : DiskOk w p D F n) (hq : WheelAt w q p t) :
    Calls Try.prog 34 #[ptrTo q, .int .i64 s] w fun e w' => e = .returned (.tuple #[.int .i64 (whd D s).1, .int .i64 (whd D s).2]) ∧ Calm w w' := by
  have hb := box (bars_any q p t s w hq)
  obtain ⟨c0, c1, f0, f1, hlt⟩ := hq.cells
  cases hsb : slotBad s
  · have hs : 0 ≤ s ∧ s < 16 := by unfold slotBad at hsb; simp at hsb; omega
    obtain ⟨hs0, hs1⟩ := hs
    have hr := box (show whd D s = if (D.read wslots (6 * s) 6).2 ≠ 0 then (0, (D.read wslots (6 * s) 6).2) else (((⟨(D.read wslots (6 * s) 6).1, 0⟩ : Rdr).num 6).1, 0) by unfold whd; rw [hsb]; simp)
    rw [hsb] at hb
    have hrd := box (Read_ok wslots (6 * s) 6 w h)
    have hsz := box (read_size h.good wslots (6 * s) 6)
    obtain ⟨⟨x, y⟩, hxy⟩ : ∃ r, D.read wslots (6 * s) 6 = r := ⟨_, rfl⟩
    rw [hxy] at hr hrd hsz
    clear h hq hsb hxy
    rcases err_cases y with rfl | ⟨x1, x2, x3⟩
    · have hr := box (show whd D s = (((⟨x, 0⟩ : Rdr).num 6).1, 0) by rw [hr.out]; simp)
      rw [hr.out]
      go_enter Try.func34, Try.ntmps34
      go_wp2_with fail
      refine hb.out.mono ?_
      rintro e w1 ⟨rfl, rfl⟩
      go_wp2_with fail
      refine hrd.out.mono ?_
      rintro e w1 ⟨rfl, hc1⟩
      have Hc1 := box hc1
      clear hc1
      go_wp2_with fail
      refine (oc.New_any x w1).mono ?_
      rintro e w2 ⟨b, hb2, rfl, hR, hc2⟩
      have HR := box hR
      have Hc2 := box hc2
      have Hb2 := box hb2
      clear hR hc2 hb2
      go_wp2_with fail
      refine (RNum_any b ⟨x, 0⟩ 6 w2 HR.out (by have := hsz.out; simp only at this ⊢; omega)).mono ?_
      rintro e w3 ⟨rfl, _, hk⟩
      have Hk := box hk
      clear hk
      go_wp2_with fail
      go_ret2
      exact ⟨rfl, Below.trans (Hc1.out.trans Hc2.out) (Hk.out.below (Hc1.out.trans Hc2.out).size (fun x e => by have := Hb2.out; have := Hc1.out.size; omega))⟩
    · have hr := box (show whd D s = (0, y) by rw [hr.out]; simp only [ne_eq, x3.out, not_false_eq_true, if_true])
      rw [hr.out]
      go_enter Try.func34, Try.ntmps34
      go_wp2_with fail
      refine hb.out.mono ?_
      rintro e w1 ⟨rfl, rfl⟩
      go_wp2_with fail
      refine hrd.out.mono ?_
      rintro e w1 ⟨rfl, hc1⟩
      have Hc1 := box hc1
      clear hc1
      go_wp2_with fail
      go_ret2
      exact ⟨rfl, Hc1.out⟩
  · have hr := box (show whd D s = (0, 2) by unfold whd; rw [hsb]; rfl)
    rw [hr.out]
    rw [hsb] at hb
    clear h hq hsb
    go_enter Try.func34, Try.ntmps34
    go_wp2_with fail
    refine hb.out.mono ?_
    rintro e w1 ⟨rfl, rfl⟩
    go_wp2_with fail
    go_ret2
    exact ⟨rfl, .refl _⟩

/-- A slot's mark is set. -/
def wset (D : DiskS) (s n : Int) : Int × DiskS := if slotBad s then (2, D) else if fitsN 6 n then D.write wslots (6 * s) ⟨(low 6 n.toNat).toArray⟩ else (1, D)
theorem num6 (n : Int) : numB 6 [n] = if fitsN 6 n then (⟨(low 6 n.toNat).toArray⟩, 0) else (⟨#[]⟩, 2) := by
  unfold numB
  rw [if_neg (by decide)]
  simp [lowN]
set_option maxRecDepth 100000 in
set_option maxHeartbeats 4000000 in
theorem Set_any {p n : Nat} {D : DiskS} {F : Nat → Prop} (q : Nat) (t s m : Int) (w : World) (h : DiskOk w p D F n) (hn : n ≤ 999999) (hq : WheelAt w q p t) (hF : ¬ F q) (hm : -9223372036854775808 ≤ m ∧ m ≤ 9223372036854775807) :
    Calls Try.prog 31 #[ptrTo q, .int .i64 s, .int .i64 m] w (OkDone (wset D s m) p F (n + 1) w) := by
  have hb := box (bars_any q p t s w hq)
  obtain ⟨c0, c1, f0, f1, hlt⟩ := hq.cells
  have H := box h
  cases hsb : slotBad s
  · have hs : 0 ≤ s ∧ s < 16 := by unfold slotBad at hsb; simp at hsb; omega
    obtain ⟨hs0, hs1⟩ := hs
    have hr := box (show wset D s m = if fitsN 6 m then D.write wslots (6 * s) ⟨(low 6 m.toNat).toArray⟩ else (1, D) by unfold wset; rw [hsb]; rfl)
    have hcalm := box ((Calm.refl w).alloc (.cells #[.int .i64 m] 3))
    have hnum := box (Num_any 6 (some ⟨w.heap.size, 0, none⟩) 1 [m] (w.alloc (.cells #[.int .i64 m] 3)) (fun k hk => ⟨w.heap.size, 0, rfl, by simp, by
      have : k = 0 := by simpa using hk
      subst this
      exact cell_of (heap_new w _) 0⟩) (by simp) (fun x hx => by rw [List.mem_singleton] at hx; subst hx; exact hm))
    rw [num6] at hnum
    rw [hsb] at hb
    clear h hq hsb
    cases hf : fitsN 6 m
    · have hr := box (show wset D s m = (1, D) by rw [hr.out, hf]; rfl)
      rw [hf] at hnum
      clear hf
      go_enter Try.func31, Try.ntmps31
      go_wp2_with fail
      refine hb.out.mono ?_
      rintro e w1 ⟨rfl, rfl⟩
      go_wp2_with fail
      refine hnum.out.mono ?_
      rintro e w2 ⟨rfl, hc2⟩
      have Hc2 := box (hcalm.out.trans hc2)
      clear hc2
      go_wp2_with fail
      go_ret
      exact ⟨ret_int (by rw [hr.out]), F, by rw [hr.out]; exact (H.out.calm Hc2.out).mono (by omega), Step.of_calm Hc2.out⟩
    · have hr := box (show wset D s m = D.write wslots (6 * s) ⟨(low 6 m.toNat).toArray⟩ by rw [hr.out, hf]; rfl)
      rw [hf] at hnum
      clear hf
      go_enter Try.func31, Try.ntmps31
      go_wp2_with fail
      refine hb.out.mono ?_
      rintro e w1 ⟨rfl, rfl⟩
      go_wp2_with fail
      refine hnum.out.mono ?_
      rintro e w2 ⟨rfl, hc2⟩
      have e0 := (hc2.cell (p := ⟨q, 0, none⟩) (by simp; omega)).trans ((hcalm.out.cell (p := ⟨q, 0, none⟩) hlt).trans c0)
      have hlt2 := Nat.lt_of_lt_of_le hlt (Nat.le_trans hcalm.out.size hc2.size)
      have Hc2 := box (hcalm.out.trans hc2)
      clear hc2
      go_wp2_with fail
      refine (Write_ok wslots ⟨(low 6 m.toNat).toArray⟩ (6 * s) w2 (H.out.calm Hc2.out) (by omega) (by rw [low_size]; decide)).mono ?_
      rintro e w3 ⟨rfl, F3, h3, hs3⟩
      have H3 := box h3
      have Hs3 := box hs3
      clear h3 hs3
      go_wp2_with fail
      go_ret
      exact ⟨ret_int (by rw [hr.out]), F3, by rw [hr.out]; exact H3.out, Step.calm_left Hc2.out Hs3.out⟩
  · have hr := box (show wset D s m = (2, D) by unfold wset; rw [hsb]; rfl)
    rw [hsb] at hb
    clear h hq hsb
    go_enter Try.func31, Try.ntmps31
    go_wp2_with fail
    refine hb.out.mono ?_
    rintro e w1 ⟨rfl, rfl⟩
    go_wp2_with fail
    go_ret
    exact ⟨ret_int (by rw [hr.out]), F, by rw [hr.out]; exact H.out.mono (by omega), .refl _ _⟩

/-- The hand goes on. -/
def turned (t now : Int) : Int × Bool × Int := if now ≤ t then (0, false, t) else (t + 1, true, t + 1)
theorem handTurn_any (q p : Nat) (t now : Int) (w : World) (h : WheelAt w q p t) (ht : 0 ≤ t ∧ t ≤ 9000000000000000000) :
    Calls Try.prog 45 #[.pointer (some ⟨q, 1, none⟩), .int .i64 now] w fun e w' => e = .returned (.tuple #[.int .i64 (turned t now).1, .bool (turned t now).2.1]) ∧ WheelAt w' q p (turned t now).2.2 ∧ Keeps (· = q) w w' := by
  obtain ⟨c0, c1, f0, f1, hlt⟩ := h.cells
  have H := box h
  clear h
  obtain ⟨ht0, ht1⟩ := ht
  by_cases hn : now ≤ t
  · have hr : turned t now = (0, false, t) := by unfold turned; rw [if_pos hn]
    rw [hr]
    clear hr
    go_enter Try.func45, Try.ntmps45
    go_wp2
    go_ret2
    exact ⟨rfl, H.out, .refl _ _⟩
  · have hr : turned t now = (t + 1, true, t + 1) := by unfold turned; rw [if_neg hn]
    rw [hr]
    clear hr
    go_enter Try.func45, Try.ntmps45
    go_wp2
    go_ret2
    refine ⟨rfl, ?_, (Keeps.refl (fun x => x = q) w).setCell (p := ⟨q, 1, none⟩) (.inl rfl) _⟩
    have := heap_set H.out 1 (.int .i64 (t + 1))
    exact this
theorem Turn_any (q p : Nat) (t now : Int) (w : World) (h : WheelAt w q p t) (ht : 0 ≤ t ∧ t ≤ 9000000000000000000) :
    Calls Try.prog 22 #[ptrTo q, .int .i64 now] w fun e w' => e = .returned (.tuple #[.int .i64 (turned t now).1, .bool (turned t now).2.1]) ∧ WheelAt w' q p (turned t now).2.2 ∧ Keeps (· = q) w w' := by
  have hh := box (handTurn_any q p t now w h ht)
  clear h
  go_enter Try.func22, Try.ntmps22
  go_wp2_with fail
  refine hh.out.mono ?_
  rintro e w1 ⟨rfl, h1, hk⟩
  have H1 := box h1
  have Hk := box hk
  clear h1 hk
  go_wp2_with fail
  go_ret2
  exact ⟨rfl, H1.out, Hk.out⟩
theorem Hand_any (q p : Nat) (t : Int) (w : World) (h : WheelAt w q p t) : Calls Try.prog 24 #[ptrTo q] w fun e w' => e = .returned (.int .i64 t) ∧ w = w' := by
  obtain ⟨c0, c1, f0, f1, hlt⟩ := h.cells
  clear h
  go_enter Try.func24, Try.ntmps24
  go_wp2
  go_ret
  exact ⟨rfl, rfl⟩
end Go.Proofs.Ytbmhjojlbmbpkaa.wh

/- Layer 15: how far the hand has to go; the wheel that isn't there; all slots' marks. -/
namespace Go.Proofs.Ytbmhjojlbmbpkaa.wh
open Go.ChangeShapes Go.WideShapes Go.ChangeAt Go.RowKit
open Go.Proofs.Ytbmhjojlbmbpkaa.dk Go.Proofs.Ytbmhjojlbmbpkaa.oc

theorem Ahead_any (q p : Nat) (t now : Int) (w : World) (h : WheelAt w q p t) (ht : 0 ≤ t ∧ t ≤ 1000000000000000000) (hn : -1000000000000000000 ≤ now ∧ now ≤ 1000000000000000000) :
    Calls Try.prog 23 #[ptrTo q, .int .i64 now] w fun e w' => e = .returned (.int .i64 (if now ≤ t then 0 else now - t)) ∧ w = w' := by
  have hh := box (Hand_any q p t w h)
  obtain ⟨ht0, ht1⟩ := ht
  obtain ⟨hn0, hn1⟩ := hn
  have q1 : IntKind.i64.wrap (now - t) = now - t := IntWalk.i64_in _ (by omega)
  clear h
  by_cases hl : now ≤ t
  · rw [if_pos hl]
    go_enter Try.func23, Try.ntmps23
    go_wp2_with fail
    refine hh.out.mono ?_
    rintro e w1 ⟨rfl, rfl⟩
    go_wp2_with fail
    go_ret
    exact ⟨ret_int (by omega), rfl⟩
  · rw [if_neg hl]
    go_enter Try.func23, Try.ntmps23
    go_wp2_with fail
    refine hh.out.mono ?_
    rintro e w1 ⟨rfl, rfl⟩
    go_wp2_with fail
    go_ret
    exact ⟨ret_int (by omega), rfl⟩
theorem AheadNil_any (now : Int) (w : World) : Calls Try.prog 23 #[.pointer none, .int .i64 now] w fun e w' => e = .returned (.int .i64 0) ∧ w = w' := by
  go_enter Try.func23, Try.ntmps23
  go_wp2
  go_ret
  exact ⟨rfl, rfl⟩
theorem HandNil_any (w : World) : Calls Try.prog 24 #[.pointer none] w fun e w' => e = .returned (.int .i64 0) ∧ w = w' := by
  go_enter Try.func24, Try.ntmps24
  go_wp2
  go_ret
  exact ⟨rfl, rfl⟩
theorem TurnNil_any (now : Int) (w : World) : Calls Try.prog 22 #[.pointer none, .int .i64 now] w fun e w' => e = .returned (.tuple #[.int .i64 0, .bool false]) ∧ w = w' := by
  go_enter Try.func22, Try.ntmps22
  go_wp2
  go_ret2
  exact ⟨rfl, rfl⟩
theorem HeadNil_any (s : Int) (w : World) : Calls Try.prog 34 #[.pointer none, .int .i64 s] w fun e w' => e = .returned (.tuple #[.int .i64 0, .int .i64 1]) ∧ w = w' := by
  have hb := box (barsNil_any s w)
  go_enter Try.func34, Try.ntmps34
  go_wp2_with fail
  refine hb.out.mono ?_
  rintro e w1 ⟨rfl, rfl⟩
  go_wp2_with fail
  go_ret2
  exact ⟨rfl, rfl⟩
theorem SetNil_any (s n : Int) (w : World) : Calls Try.prog 31 #[.pointer none, .int .i64 s, .int .i64 n] w fun e w' => e = .returned (.int .i64 1) ∧ w = w' := by
  have hb := box (barsNil_any s w)
  go_enter Try.func31, Try.ntmps31
  go_wp2_with fail
  refine hb.out.mono ?_
  rintro e w1 ⟨rfl, rfl⟩
  go_wp2_with fail
  go_ret
  exact ⟨rfl, rfl⟩
theorem HeadsNil_any (w : World) : Calls Try.prog 33 #[.pointer none] w fun e w' => e = .returned (.tuple #[.slice none 0 0, .int .i64 1]) ∧ w = w' := by
  have hb := box (HeadNil_any 0 w)
  go_enter Try.func33, Try.ntmps33
  go_wp2_with fail
  refine wp_loop_rounds 2 ?_
  rw [rounds_succ]
  go_wp2_with fail
  refine hb.out.mono ?_
  rintro e w1 ⟨rfl, rfl⟩
  go_wp2_with fail
  go_ret2
  exact ⟨rfl, rfl⟩

/-- A new wheel on a new disk of 1000 bytes. -/
def wd1 (b : Nat) : DiskS := ⟨-1, false, 1000, [⟨wslots, b, ⟨#[]⟩, laid ⟨#[]⟩ 0 (noughts 96)⟩], [⟨b, 0, noughts 96⟩]⟩
def wd0 (b : Nat) : DiskS := ⟨-1, false, 1000, [⟨wslots, b, ⟨#[]⟩, ⟨#[]⟩⟩], []⟩
theorem wn1 (b : Nat) : wnew (new 1000) b = (0, wd1 b) := by
  have h0 : (new 1000).names whead = [] := by simp [DiskS.names, DiskS.namesL, new]
  have h1 : cleared (new 1000) whead = (0, new 1000) := by unfold cleared; rw [if_pos h0]
  have h2 : (new 1000).create wslots b = (0, wd0 b) := by rfl
  have h3 : (wd0 b).write wslots 0 (noughts 96) = (0, wd1 b) := by rfl
  unfold wnew
  rw [h1, if_neg (fun h => h rfl), h2, if_neg (fun h => h rfl), h3]
theorem New_1000 {p : Nat} {F : Nat → Prop} (t : Int) (w : World) (h : DiskOk w p (new 1000) F 0) (ht : 0 ≤ t ∧ t ≤ 1099511627776) :
    Calls Try.prog 21 #[ptrTo p, .int .i64 t] w fun e w' => ∃ q b F', e = .returned (.tuple #[ptrTo q, .int .i64 0]) ∧ DiskOk w' p (wd1 b) F' 1 ∧ Step F w F' w' ∧ WheelAt w' q p t ∧ w.heap.size ≤ q ∧ ¬ F' q := by
  refine (New_any t w h (by decide) ht (fun f hf => by cases hf) (by decide)).mono ?_
  rintro e w' ⟨b, v, F', hb, rfl, hd, hs, hv⟩
  rw [wn1] at hd hv
  rw [wn1]
  rcases hv with ⟨_, q, rfl, hq, hlt, hF⟩ | ⟨h, _⟩
  · exact ⟨q, b, F', rfl, hd, hs, hq, hlt, hF⟩
  · exact absurd rfl h
theorem turned_goes {t now : Int} (h : t < now) : turned t now = (t + 1, true, t + 1) := by unfold turned; rw [if_neg (by omega)]
theorem turned_stays {t now : Int} (h : now ≤ t) : turned t now = (0, false, t) := by unfold turned; rw [if_pos h]
set_option maxRecDepth 100000 in
set_option maxHeartbeats 4000000 in
theorem awake_any (w : World) : Calls Try.prog 20 #[] w fun e w' => e = .returned (.bool true) ∧ Calm w w' := by
  go_enter Try.func20, Try.ntmps20
  go_wp2_with fail
  refine (New_ok _ 1000).mono ?_
  rintro e w1 ⟨p, F, rfl, h1, hc1, hF1⟩
  have O1 := box ((Owns.refl w).new hc1 hF1)
  have H1 := box h1
  clear h1 hc1 hF1
  go_wp2_with fail
  refine (New_1000 5 _ H1.out (by decide)).mono ?_
  rintro e w2 ⟨q, b, F2, rfl, h2, hs2, hq, hq2, hF2⟩
  have O2 := box (O1.out.step hs2)
  have Q2 := box hq
  have Hq := box (Nat.le_trans O1.out.calm.size hq2)
  clear h2 hs2 hq hq2 hF2
  go_wp2_with fail
  refine (Turn_any q p 5 7 _ Q2.out (by decide)).mono ?_
  rw [turned_goes (by decide)]
  rintro e w3 ⟨rfl, hq3, hk3⟩
  have K3 := box hk3
  have Q3 := box hq3
  clear hk3 hq3
  go_wp2_with fail
  refine (Turn_any q p (5 + 1) 7 _ Q3.out (by decide)).mono ?_
  rw [turned_goes (by decide)]
  rintro e w4 ⟨rfl, hq4, hk4⟩
  have K4 := box (K3.out.trans' hk4)
  have Q4 := box hq4
  clear hk4 hq4
  go_wp2_with fail
  refine (Turn_any q p (5 + 1 + 1) 7 _ Q4.out (by decide)).mono ?_
  rw [turned_stays (by decide)]
  rintro e w5 ⟨rfl, hq5, hk5⟩
  have K5 := box (K4.out.trans' hk5)
  have Q5 := box hq5
  clear hk5 hq5
  go_wp2_with fail
  refine (Hand_any q p (5 + 1 + 1) _ Q5.out).mono ?_
  rintro e w6 ⟨rfl, rfl⟩
  go_wp2_with fail
  go_ret
  refine ⟨ret_bool (by simp), ?_⟩
  exact Below.trans O2.out.calm (K5.out.below O2.out.calm.size (fun x e => by have := Hq.out; omega))
end Go.Proofs.Ytbmhjojlbmbpkaa.wh

/- Layer 4, plain laws: a disk as bytes by name; calls that succeed. -/
namespace Go.Proofs.Ytbmhjojlbmbpkaa.dk
open Go.ChangeShapes Go.WideShapes Go.ChangeAt Go.RowKit

variable {D : DiskS}
/-- No fuse burns, and it is up. -/
structure Alive (D : DiskS) : Prop where
  left : D.left = -1
  down : D.down = false
theorem Alive.burns (h : Alive D) : D.burns = false := by unfold DiskS.burns; rw [h.left]; rfl
theorem Alive.burn (h : Alive D) : D.burn = D := by unfold DiskS.burn; rw [h.left]; rfl
theorem Alive.doing (h : Alive D) (f : DiskS → DiskS) : D.doing f = (0, f D) := by unfold DiskS.doing; rw [h.burns, h.burn]; rfl
/-- A file's bytes. -/
def DiskS.bytes (D : DiskS) (n : ByteArray) : Option ByteArray := (D.find n).map (·.now)
theorem bytes_some {n : ByteArray} {s : ByteArray} (h : D.bytes n = some s) : ∃ f, D.find n = some f ∧ f.now = s := by
  unfold DiskS.bytes at h
  cases hf : D.find n with
  | none => rw [hf] at h; cases h
  | some f => rw [hf] at h; exact ⟨f, rfl, by simpa using h⟩
theorem bytes_has (n : ByteArray) : D.has n = (D.bytes n).isSome := by unfold DiskS.has DiskS.bytes; cases D.find n <;> rfl
theorem new_alive (c : Int) : Alive (new c) := ⟨rfl, rfl⟩
theorem new_bytes (c : Int) (n : ByteArray) : (new c).bytes n = none := rfl
theorem new_size (c : Int) : (new c).size = 0 := rfl

theorem all_bytes (h : Alive D) {n s : ByteArray} (hb : D.bytes n = some s) : D.all n = (s, 0) := by
  obtain ⟨f, h1, h2⟩ := bytes_some hb
  unfold DiskS.all; rw [h.down, h1]; simp [h2]
theorem read_bytes (h : Alive D) {n s : ByteArray} (hb : D.bytes n = some s) (k m : Nat) (hk : k + m ≤ s.size) : D.read n k m = (s.extract k (k + m), 0) := by
  unfold DiskS.read
  rw [all_bytes h hb]
  simp only [ne_eq, not_true, if_false]
  rw [if_neg (by omega)]
  simp only [Int.toNat_natCast, show ((k : Int) + m).toNat = k + m by omega]

/-- What is as it was but for one file. -/
structure But (D E : DiskS) (n : ByteArray) (s : ByteArray) : Prop where
  alive : Alive E
  cap : E.cap = D.cap
  this : E.bytes n = some s
  others : ∀ m, m ≠ n → E.bytes m = D.bytes m

theorem create_but (h : Alive D) {n : ByteArray} (hb : D.bytes n = none) (b : Nat) : ∃ E, D.create n b = (0, E) ∧ But D E n ⟨#[]⟩ ∧ E.size = D.size := by
  have hh : D.has n = false := by rw [bytes_has, hb]; rfl
  refine ⟨{ D with files := D.files ++ [⟨n, b, ⟨#[]⟩, ⟨#[]⟩⟩] }, by unfold DiskS.create; rw [if_neg (by rw [h.down]; decide), if_neg (by rw [hh]; decide), h.doing], ⟨⟨h.left, h.down⟩, rfl, ?_, fun m hm => ?_⟩, ?_⟩
  · have hf : D.find n = none := by unfold DiskS.has at hh; cases hx : D.find n; rfl; rw [hx] at hh; cases hh
    unfold DiskS.bytes DiskS.find at *
    simp only
    rw [List.find?_append, hf]; simp
  · unfold DiskS.bytes DiskS.find
    simp only
    rw [List.find?_append]
    have : List.find? (fun f : FileS => decide (f.name = m)) [⟨n, b, ⟨#[]⟩, ⟨#[]⟩⟩] = none := by simp [Ne.symm hm]
    rw [this]; simp
  · unfold DiskS.size; rw [total_append]; rfl

theorem find_turn_same (hF : Form D) {n : ByteArray} {f : FileS} (hf : D.find n = some f) (g : FileS → FileS) (hg : ∀ x, (g x).name = x.name) : (D.turn n g).find n = some (g f) := by
  obtain ⟨L1, L2, e1, e2, e3⟩ := turn_split hF hf g
  have hn := (find_some hf).2
  unfold DiskS.find
  rw [e2, List.find?_append, List.find?_cons]
  have : L1.find? (fun f => decide (f.name = n)) = none := by
    rw [List.find?_eq_none]; intro x hx; simpa using (e3 x (List.mem_append_left _ hx)).1
  simp [this, hg, hn]
theorem find_turn_other {a b : ByteArray} (h : a ≠ b) (g : FileS → FileS) (hg : ∀ x, (g x).name = x.name) : (D.turn a g).find b = D.find b := by
  unfold DiskS.find DiskS.turn
  simp only
  generalize D.files = l
  induction l with
  | nil => rfl
  | cons x l ih =>
    simp only [List.map_cons, List.find?_cons]
    by_cases hx : x.name = a
    · have hxb : ¬ x.name = b := fun e => h (hx.symm.trans e)
      simp only [hx, if_true, hg]
      rw [ih]
      simp [h]
    · simp only [if_neg hx]
      rw [ih]
theorem laid_zero (s : ByteArray) (k : Nat) (o : ByteArray) (ho : o.size = 0) : laid s k o = s := by
  unfold laid laidL
  rw [if_pos (List.eq_nil_of_length_eq_zero (by simpa using ho))]
/-- A write that has room. -/
theorem write_but (h : Alive D) (hF : Form D) {n s : ByteArray} (hb : D.bytes n = some s) (k : Nat) (t : ByteArray) (hk : k ≤ s.size) (hroom : ((k + t.size - s.size : Nat) : Int) ≤ D.cap - D.size) :
    ∃ E, D.write n k t = (0, E) ∧ But D E n (laid s k t) ∧ E.size = D.size + (k + t.size - s.size) := by
  obtain ⟨f, h1, h2⟩ := bytes_some hb
  subst h2
  have hw : D.write n k t = D.doing fun D => if t.size = 0 then D else { D.turn n (fun f => { f with now := laid f.now k t }) with waits := D.waits ++ [⟨f.blk, k, t⟩] } := by
    unfold DiskS.write
    rw [h.down, h1]
    simp only [Int.toNat_natCast]
    rw [if_neg (by decide), if_neg (by omega), if_neg (by omega)]
  rw [hw, h.doing]
  by_cases h0 : t.size = 0
  · rw [if_pos h0]
    refine ⟨D, rfl, ⟨h, rfl, by rw [laid_zero _ _ _ h0]; exact hb, fun _ _ => rfl⟩, by omega⟩
  · rw [if_neg h0]
    refine ⟨_, rfl, ⟨⟨h.left, h.down⟩, rfl, ?_, fun m hm => ?_⟩, ?_⟩
    · show ((D.turn n _).find n).map _ = _
      rw [find_turn_same hF h1 (fun f => { f with now := laid f.now k t }) (fun _ => rfl)]; rfl
    · show ((D.turn n _).find m).map _ = _
      rw [find_turn_other (Ne.symm hm) (fun f => { f with now := laid f.now k t }) (fun _ => rfl)]; rfl
    · obtain ⟨L1, L2, e1, e2, _⟩ := turn_split hF h1 (fun f => { f with now := laid f.now k t })
      have hl := laid_size f.now k t
      have hg := laid_le f.now k t h0
      show total (D.turn n _).files = total D.files + _
      rw [e2, e1, total_split, total_split]
      simp only
      omega
theorem bytes_laid (s : ByteArray) (k : Nat) (t : ByteArray) (h : k + t.size ≤ s.size) : (laid s k t).data.toList = s.data.toList.take k ++ t.data.toList ++ s.data.toList.drop (k + t.size) := by
  unfold laid laidL
  by_cases h0 : t.data.toList = []
  · have : t.size = 0 := by have := congrArg List.length h0; simpa using this
    rw [if_pos h0]
    simp [h0, this]
  · rw [if_neg h0]
    unfold pad
    rw [show k + t.data.toList.length - s.data.toList.length = 0 by simp; omega]
    simp
theorem bytes_end (s t : ByteArray) : (laid s s.size t).data.toList = s.data.toList ++ t.data.toList := by
  unfold laid laidL
  by_cases h0 : t.data.toList = []
  · rw [if_pos h0]; simp [h0]
  · rw [if_neg h0]
    unfold pad
    simp
theorem But.other {E : DiskS} {n s : ByteArray} (h : But D E n s) {m : ByteArray} (hm : m ≠ n) {t : ByteArray} (ht : D.bytes m = some t) : E.bytes m = some t := by rw [h.others m hm]; exact ht
end Go.Proofs.Ytbmhjojlbmbpkaa.dk

/- Plain laws: numbers of a fixed width, one behind another. -/
namespace Go.Proofs.Ytbmhjojlbmbpkaa.fl
open Go.Proofs.Ytbmhjojlbmbpkaa.oc Go.Proofs.Ytbmhjojlbmbpkaa.dk

theorem bytes_size (a : List UInt8) : (⟨a.toArray⟩ : ByteArray).size = a.length := by show a.toArray.size = _; simp
theorem getN_append (a b : List UInt8) : getN (a ++ b) = getN a * 256 ^ b.length + getN b := by
  induction b generalizing a with
  | nil => simp [getN]
  | cons c b ih =>
    rw [show a ++ c :: b = (a ++ [c]) ++ b by simp, ih, getN_snoc, show c :: b = [c] ++ b from rfl, ih [c]]
    have : getN [c] = c.toNat := by simp [getN]
    rw [this, List.length_append, List.length_singleton, Nat.add_comm 1, Nat.pow_succ, Nat.add_mul, Nat.mul_comm 256 (getN a), Nat.mul_assoc, Nat.mul_comm 256]
    omega
theorem getN_low : ∀ (n x : Nat), x < 256 ^ n → getN (low n x) = x
  | 0, x, h => by simp at h; subst h; rfl
  | n + 1, x, h => by
    rw [show low (n + 1) x = [UInt8.ofNat (x / 256 ^ n)] ++ low n x from rfl, getN_append, low_length]
    have hd : x / 256 ^ n < 256 := by rw [Nat.div_lt_iff_lt_mul (Nat.pow_pos (by decide))]; rw [Nat.pow_succ] at h; omega
    have h1 : getN [UInt8.ofNat (x / 256 ^ n)] = x / 256 ^ n := by simp [getN]; omega
    have h2 : low n x = low n (x % 256 ^ n) := low_mod n x
    rw [h1, h2, getN_low n _ (Nat.mod_lt _ (Nat.pow_pos (by decide)))]
    have := Nat.div_add_mod x (256 ^ n)
    rw [Nat.mul_comm] at this
    omega
where
  low_mod : ∀ (n x : Nat), low n x = low n (x % 256 ^ n) := fun n x => low_mod' n n (Nat.le_refl n) x
  low_mod' : ∀ (m n : Nat), m ≤ n → ∀ x, low m x = low m (x % 256 ^ n) := fun m => by
    induction m with
    | zero => intro n _ x; rfl
    | succ m ih =>
      intro n hm x
      unfold low
      rw [ih n (by omega) x]
      congr 1
      have : x % 256 ^ n / 256 ^ m % 256 = x / 256 ^ m % 256 := by
        obtain ⟨d, rfl⟩ : ∃ d, n = m + 1 + d := ⟨n - (m + 1), by omega⟩
        have e : 256 ^ (m + 1 + d) = 256 ^ m * (256 * 256 ^ d) := by rw [Nat.pow_add, Nat.pow_succ, Nat.mul_assoc]
        rw [e, Nat.mod_mul_right_div_self, Nat.mod_mul_right_mod]
      apply UInt8.toNat_inj.1
      simp [this]
theorem num_low (n x : Nat) (h1 : 1 ≤ n) (h7 : n ≤ 7) (hx : x < 256 ^ n) (rest : List UInt8) : (⟨⟨(low n x ++ rest).toArray⟩, 0⟩ : Rdr).num n = ((x : Int), ⟨⟨rest.toArray⟩, 0⟩) := by
  have ht : (⟨⟨(low n x ++ rest).toArray⟩, 0⟩ : Rdr).take n = (⟨(low n x).toArray⟩, ⟨⟨rest.toArray⟩, 0⟩) := by
    unfold Rdr.take
    rw [if_neg (fun h => h rfl), if_neg (by omega), if_neg (by rw [bytes_size]; simp [low_length]; omega)]
    simp only [Int.toNat_natCast]
    rw [bytes_size, Go.ByteArray.extract_mk, Go.ByteArray.extract_mk]
    simp [low_length, List.take_append_of_le_length, List.drop_append_of_le_length]
  unfold Rdr.num
  rw [if_neg (fun h => h rfl), if_neg (by omega), ht]
  simp only [getN_low n x hx]
theorem flat_take {α : Type} (f : α → List UInt8) (c : Nat) (hc : ∀ x, (f x).length = c) : ∀ (l : List α) (i : Nat) (h : i < l.length), ((l.flatMap f).drop (c * i)).take c = f l[i]
  | x :: l, 0, h => by simp [List.flatMap_cons, List.take_append_of_le_length, hc x, List.take_of_length_le]
  | x :: l, i + 1, h => by
    have e : c * (i + 1) - c = c * i := by rw [Nat.mul_succ]; omega
    have e2 : c ≤ c * (i + 1) := Nat.le_mul_of_pos_right c (by omega)
    rw [List.flatMap_cons, List.drop_append, hc x, e, List.drop_of_length_le (by rw [hc x]; exact e2), List.nil_append]
    exact flat_take f c hc l i (by simpa using h)
theorem flat_length {α : Type} (f : α → List UInt8) (c : Nat) (hc : ∀ x, (f x).length = c) (l : List α) : (l.flatMap f).length = c * l.length := by
  induction l with
  | nil => simp
  | cons x l ih => rw [List.flatMap_cons, List.length_append, hc, ih, List.length_cons, Nat.mul_succ]; omega
theorem read_flat {α : Type} {D : DiskS} (ha : Alive D) (f : α → List UInt8) (c : Nat) (hc : ∀ x, (f x).length = c) (l : List α) (n : ByteArray) (hb : D.bytes n = some ⟨(l.flatMap f).toArray⟩) (i : Nat) (hi : i < l.length) :
    D.read n ((c * i : Nat) : Int) (c : Nat) = (⟨(f l[i]).toArray⟩, 0) := by
  rw [read_bytes ha hb (c * i) c (by rw [bytes_size, flat_length f c hc]; rw [← Nat.mul_succ]; exact Nat.mul_le_mul_left c hi)]
  congr 1
  rw [Go.ByteArray.extract_mk, Nat.add_sub_cancel_left, flat_take f c hc l i hi]

theorem flat_set {α : Type} (f : α → List UInt8) (c : Nat) (hc : ∀ x, (f x).length = c) (v : α) : ∀ (l : List α) (i : Nat), i < l.length →
    (l.flatMap f).take (c * i) ++ f v ++ (l.flatMap f).drop (c * i + c) = (l.set i v).flatMap f
  | x :: l, 0, h => by
    simp only [List.flatMap_cons, Nat.mul_zero, List.take_zero, List.nil_append, List.set_cons_zero, Nat.zero_add]
    rw [List.drop_append_of_le_length (by rw [hc]; exact Nat.le_refl _), List.drop_of_length_le (by rw [hc]; exact Nat.le_refl _), List.nil_append]
  | x :: l, i + 1, h => by
    have ih := flat_set f c hc v l i (by simpa using h)
    simp only [List.flatMap_cons, List.set_cons_succ]
    rw [← ih]
    have e : c * (i + 1) = (f x).length + c * i := by rw [hc, Nat.mul_succ]; omega
    rw [e, List.take_length_add_append, Nat.add_assoc, List.drop_length_add_append]
    simp [List.append_assoc]
theorem bytes_ext {s t : ByteArray} (h : s.data.toList = t.data.toList) : s = t := by
  cases s with | mk s => cases t with | mk t => exact congrArg ByteArray.mk (Array.toList_inj.mp h)
end Go.Proofs.Ytbmhjojlbmbpkaa.fl

/- Small lemmas for regions that draw their order and only read. -/
namespace Go.Proofs.Ytbmhjojlbmbpkaa
open Go.ChangeShapes Go.WideShapes Go.ChangeAt Go.RowKit
theorem Calm.drewN {a w : World} (h : Calm a w) (n : Nat) : Calm a (w.drewN n) := ⟨h.os, h.tape, h.output, h.size, h.block⟩
end Go.Proofs.Ytbmhjojlbmbpkaa

/- Rows of numbers: read, made by append, compared. -/
namespace Go.Proofs.Ytbmhjojlbmbpkaa
open Go.ChangeShapes Go.WideShapes Go.ChangeAt Go.RowKit
open Go.Proofs.Ytbmhjojlbmbpkaa.dk

/-- A slice value that reads as a list of numbers. -/
def IntsAt (w : World) (v : Value) (l : List Int) : Prop :=
  ∃ a cap, v = .slice a l.length cap ∧ (l.length ≤ maxLen ∧ l.length ≤ cap) ∧ ∀ k (hk : k < l.length), ∃ b off, a = some ⟨b, off, none⟩ ∧ b < w.heap.size ∧ w.cell? ⟨b, off + k, none⟩ = some (.int .i64 l[k])
theorem IntsAt.calm {w w' : World} {v : Value} {l : List Int} (h : IntsAt w v l) (hc : Calm w w') : IntsAt w' v l := by
  obtain ⟨a, cap, h1, h2, h4⟩ := h
  refine ⟨a, cap, h1, h2, fun k hk => ?_⟩
  obtain ⟨b, off, e, hb, hcell⟩ := h4 k hk
  exact ⟨b, off, e, Nat.lt_of_lt_of_le hb hc.size, by rw [hc.cell (p := ⟨b, off + k, none⟩) hb]; exact hcell⟩

/-- All its blocks lie from B on. -/
def From (B : Nat) (v : Value) : Prop := ∀ b, v.ownBlock = some b → B ≤ b
theorem ints_keep {w w' : World} {v : Value} {l : List Int} {B : Nat} {F : Nat → Prop} (h : IntsAt w v l) (hv : From B v) (k : Keeps F w w') (hF : ∀ b, F b → b < B) : IntsAt w' v l := by
  obtain ⟨a, cap, rfl, h2, h4⟩ := h
  refine ⟨a, cap, rfl, h2, fun j hj => ?_⟩
  obtain ⟨b, off, rfl, hb, hcell⟩ := h4 j hj
  have hB := hv b rfl
  refine ⟨b, off, rfl, Nat.lt_of_lt_of_le hb k.size, ?_⟩
  rw [World.cell?_of_block (w := w) (a := ⟨b, off + j, none⟩) (k.block b hb (fun hf => by have := hF b hf; omega))]
  exact hcell
theorem RowsAt.ints {w : World} {v : Value} {l : List Int} (h : RowsAt (IntR .i64) 1 w v l) : IntsAt w v l ∧ ∀ x ∈ l, -9223372036854775808 ≤ x ∧ x ≤ 9223372036854775807 := by
  obtain ⟨a, cap, rfl, h2, h3, h4⟩ := h
  refine ⟨⟨a, cap, rfl, by omega, fun k hk => ?_⟩, fun x hx => ?_⟩
  · obtain ⟨b, off, cs, e, hb, hl, hcell, hr, _⟩ := h4 k hk
    subst hr
    have := hcell 0 (by omega)
    simp only [Nat.mul_one, Nat.add_zero] at this
    exact ⟨b, off, e, hb, this⟩
  · obtain ⟨i, hi, rfl⟩ := List.mem_iff_getElem.1 hx
    obtain ⟨_, _, _, _, _, _, _, _, hr⟩ := h4 i hi
    exact hr
abbrev intRow (l : List Int) : List Value := l.map fun n => .int .i64 n
theorem own_ints {w : World} {base : Nat} {v : Value} {l : List Int} (h : w.ownsRow base 3 1 v l.length (intRow l)) (hl : l.length ≤ 1000000) : IntsAt w v l ∧ From base v := by
  refine ⟨?_, fun b hb => (h.lt b hb).1⟩
  rcases h.2 with ⟨rfl, hn⟩ | ⟨g, cap, cur, rfl, hb, hg, hnc, hcm, hcs, htake⟩
  · have : l = [] := List.eq_nil_of_length_eq_zero hn
    subst this
    exact ⟨none, 0, rfl, ⟨Nat.zero_le _, Nat.zero_le _⟩, fun k hk => absurd hk (Nat.not_lt_zero _)⟩
  · refine ⟨_, cap, rfl, by omega, fun k hk => ⟨g, 0, rfl, heap_lt hg, ?_⟩⟩
    have := h.cells (g := g) rfl k (.int .i64 l[k]) (by simp [intRow, hk])
    rw [add_lit] at this
    rw [Nat.zero_add]
    exact this
theorem own_calm {w w' : World} {base n : Nat} {v : Value} {e : TypeId} {size : Nat} {xs : List Value} (h : w.ownsRow base e size v n xs) (hc : Calm w w') : w'.ownsRow base e size v n xs :=
  row_same h (fun g hg => hc.block g (h.lt g hg).2)
theorem infoInt : (Try.prog.info? 3).map (fun i => (i.zero, i.size, i.bytes)) = some (some (.int .i64 0), 1, 8) := by kernel_rfl
/-- 'append(row, n)' onto a row of one's own. -/
theorem append_int (w : World) (base : Nat) (v : Value) (l : List Int) (x : Int) (h : w.ownsRow base 3 1 v l.length (intRow l)) (hbase : base ≤ w.heap.size) (hl : l.length ≤ 1000000) (ty : TypeId) :
    ∃ v' w', (Builtin.append_ #[57, 57] ty #[v, .slice (some ⟨w.heap.size, 0, none⟩) 1 1]).run Try.prog (w.alloc (.cells #[.int .i64 x] 3)) = .ok v' w' ∧
      w'.ownsRow base 3 1 v' (l ++ [x]).length (intRow (l ++ [x])) ∧ Keeps (base ≤ ·) w w' := by
  obtain ⟨i0, hi, hz0, hz1, hz2⟩ := info_parts infoInt
  have hb := heap_new w (.cells #[.int .i64 x] 3)
  obtain ⟨v', w', h1, h2, h3, _⟩ := run_append_own (P := Try.prog) (w.alloc (.cells #[.int .i64 x] 3)) base 57 ty 3 i0 _ 1 8 Try.underlying57 hi hz0 hz1 hz2 (by kernel_rfl) (by decide) v l.length _ (h.alloc _) ⟨w.heap.size, 0, none⟩ 1 1 [.int .i64 x] rfl (fun j u hj => by
      rw [add_lit, cell_of hb]
      match j, hj with
      | 0, hj => exact hj
      | k + 1, hj => simp at hj) (fun u hu => by
      rcases List.mem_cons.1 hu with rfl | hu
      · rfl
      cases hu) (by simp only [maxLen]; omega) (by omega) (by rw [World.size_alloc]; omega)
  refine ⟨v', w', h1, ?_, ?_⟩
  · simpa [intRow] using h2
  · exact ((Keeps.refl (base ≤ ·) w).alloc _).grown h3 (fun k hk => .inl (h.lt k hk).1)

/-- A pair of numbers. -/
def PairR (k : IntKind) : Reads (Int × Int) := fun _ cs x => cs = [.int k x.1, .int k x.2] ∧ (k.min ≤ x.1 ∧ x.1 ≤ k.max) ∧ k.min ≤ x.2 ∧ x.2 ≤ k.max
theorem PairR.lasts (k : IntKind) : (PairR k).Lasts := fun _ _ _ _ h _ => h
theorem opens_pair {P : Program} {t e : TypeId} {k : IntKind} (ht : P.underlying t = some (.array 2 e)) (he : P.underlying e = some (.int k)) (hc : P.cellsOf e = 1) (hc2 : P.cellsOf t = 2) : Opens P t (PairR k) := fun H enc w base sp held fuel cs x h => by
  obtain ⟨xs, m, _, _, hlen, hxl, hg⟩ := DataW.trod_array ht h
  rw [hc2] at hlen
  rw [hc] at hg
  match cs, hlen with
  | [c0, c1], _ =>
    have g0 := hg 0 (by decide)
    have g1 := hg 1 (by decide)
    rw [List.getElem?_eq_getElem (by omega)] at g0 g1
    obtain ⟨a, ha, ha2⟩ := opens_int he _ _ _ _ _ _ _ _ _ g0
    obtain ⟨b, hb, hb2⟩ := opens_int he _ _ _ _ _ _ _ _ _ g1
    simp at ha hb
    exact ⟨(a, b), by rw [ha, hb], ha2, hb2⟩
theorem RowsAt.pairs {k : IntKind} {w : World} {v : Value} {l : List (Int × Int)} (h : RowsAt (PairR k) 2 w v l) : ∃ a cap, v = .slice a l.length cap ∧ l.length ≤ maxLen ∧ ∀ i (hi : i < l.length), ∃ b off, a = some ⟨b, off, none⟩ ∧ b < w.heap.size ∧
    w.cell? ⟨b, off + i * 2, none⟩ = some (.int k l[i].1) ∧ w.cell? ⟨b, off + i * 2 + 1, none⟩ = some (.int k l[i].2) ∧ (k.min ≤ l[i].1 ∧ l[i].1 ≤ k.max) ∧ k.min ≤ l[i].2 ∧ l[i].2 ≤ k.max := by
  obtain ⟨a, cap, rfl, h2, h3, h4⟩ := h
  refine ⟨a, cap, rfl, by omega, fun i hi => ?_⟩
  obtain ⟨b, off, cs, e, hb, hl, hcell, hr, hm⟩ := h4 i hi
  subst hr
  exact ⟨b, off, e, hb, hcell 0 (by omega), hcell 1 (by omega), hm⟩
theorem RowsAt.nums {k : IntKind} {w : World} {v : Value} {l : List Int} (h : RowsAt (IntR k) 1 w v l) : ∃ a cap, v = .slice a l.length cap ∧ l.length ≤ maxLen ∧ ∀ i (hi : i < l.length), ∃ b off, a = some ⟨b, off, none⟩ ∧ b < w.heap.size ∧
    w.cell? ⟨b, off + i, none⟩ = some (.int k l[i]) ∧ k.min ≤ l[i] ∧ l[i] ≤ k.max := by
  obtain ⟨a, cap, rfl, h2, h3, h4⟩ := h
  refine ⟨a, cap, rfl, by omega, fun i hi => ?_⟩
  obtain ⟨b, off, cs, e, hb, hl, hcell, hr, hm⟩ := h4 i hi
  subst hr
  have := hcell 0 (by omega)
  simp only [Nat.mul_one, Nat.add_zero] at this
  exact ⟨b, off, e, hb, this, hm⟩

/-- Are two lists one? -/
theorem Ints_any (v u : Value) (l m : List Int) (w : World) (h : IntsAt w v l) (g : IntsAt w u m) : Calls Try.prog 35 #[v, u] w fun e w' => e = .returned (.bool (decide (l = m))) ∧ Calm w w' := by
  obtain ⟨a, acap, rfl, hal, ha⟩ := h
  obtain ⟨b, bcap, rfl, hbl, hb⟩ := g
  by_cases hlen : l.length = m.length
  · have ha' := box ha
    have hb' := box hb
    have Hl := box hal
    unfold maxLen at hal
    clear ha hb hbl
    rw [← hlen]
    obtain ⟨rr, hrr⟩ : ∃ rr, decide (l = m) = rr := ⟨_, rfl⟩
    rw [hrr]
    have Hrr := box hrr.symm
    clear hrr
    go_enter Try.func35, Try.ntmps35
    go_wp2_with fail
    go_loopw [5] (fun i wr => ∃ k : Nat, k ≤ l.length ∧ i = .int .i64 k ∧ l.take k = m.take k ∧ Calm w wr) (fun i _ => l.length - (intOf i).toNat)
    case atStart => exact ⟨0, Nat.zero_le _, rfl, rfl, .refl _⟩
    case round =>
      obtain ⟨k, hk, rfl, hpre, hC⟩ := hrel
      have Hpre := box hpre
      have HC := box hC
      clear hpre hC
      by_cases hlt : k < l.length
      · obtain ⟨ab, aoff, rfl, hal2, hac⟩ := ha'.out k hlt
        obtain ⟨bb, boff, rfl, hbl2, hbc⟩ := hb'.out k (by omega)
        have hs1 := box (show l.take (k + 1) = l.take k ++ [l[k]] from List.take_succ_eq_append_getElem hlt)
        have hs2 := box (show m.take (k + 1) = m.take k ++ [m[k]'(by omega)] from List.take_succ_eq_append_getElem (by omega))
        have hne := box (fun (h : l[k] ≠ m[k]'(by omega)) => (decide_eq_false (fun e => h (by subst e; rfl)) : decide (l = m) = false))
        obtain ⟨x, hx⟩ : ∃ x, l[k] = x := ⟨_, rfl⟩
        obtain ⟨y, hy⟩ : ∃ y, m[k]'(by omega) = y := ⟨_, rfl⟩
        rw [hx] at hac hs1 hne
        rw [hy] at hbc hs2 hne
        clear hx hy
        have hac' := (HC.out.cell (p := ⟨ab, aoff + k, none⟩) hal2).trans hac
        have hbc' := (HC.out.cell (p := ⟨bb, boff + k, none⟩) hbl2).trans hbc
        have hal3 := Nat.lt_of_lt_of_le hal2 HC.out.size
        have hbl3 := Nat.lt_of_lt_of_le hbl2 HC.out.size
        have hki : (k : Int) < (l.length : Int) := by omega
        have hk0 : (0 : Int) ≤ (k : Int) := by omega
        clear hac hbc
        by_cases heq : x = y
        · subst heq
          go_wp2_with (first | go_quiet (fail) | fail)
          go_wp2_with fail
          go_roundw
          case rel => exact ⟨k + 1, by omega, by go_num, by rw [hs1.out, hs2.out, Hpre.out], HC.out.drewN _⟩
          case measure => simp [intOf]; omega
        · have hb1 : (x != y) = true := bne_iff_ne.2 heq
          have hne := box (hne.out heq)
          clear heq
          go_wp2_with (first | go_quiet (fail) | fail)
          go_wp2_with fail
          go_ret
          exact ⟨ret_bool (by rw [Hrr.out, hne.out]), HC.out.drewN _⟩
      · obtain rfl : k = l.length := by omega
        have hd : decide (l = m) = true := decide_eq_true (by
          have := Hpre.out
          rw [List.take_length, hlen, List.take_length] at this
          exact this)
        have hd := box hd
        go_wp2_with fail
        go_ret
        exact ⟨ret_bool (by rw [Hrr.out, hd.out]), HC.out⟩
  · have hd : decide (l = m) = false := decide_eq_false (fun e => hlen (by rw [e]))
    have hne : (l.length == m.length) = false := by rw [beq_eq_false_iff_ne]; exact hlen
    rw [hd]
    clear hd ha hb
    go_enter Try.func35, Try.ntmps35
    go_wp2_with fail
    all_goals first | (go_ret; exact ⟨rfl, .refl _⟩) | (exfalso; omega)
end Go.Proofs.Ytbmhjojlbmbpkaa

/- Layer 15: what the disk holds of a wheel; all slots' marks. -/
namespace Go.Proofs.Ytbmhjojlbmbpkaa.wh
open Go.ChangeShapes Go.WideShapes Go.ChangeAt Go.RowKit
open Go.Proofs.Ytbmhjojlbmbpkaa.dk Go.Proofs.Ytbmhjojlbmbpkaa.oc Go.Proofs.Ytbmhjojlbmbpkaa.fl

/-- What the disk holds of a wheel. -/
structure WhD (D : DiskS) (H : List Nat) : Prop where
  alive : Alive D
  slots : D.bytes wslots = some ⟨(H.flatMap (low 6)).toArray⟩
  len : H.length = 16
  small : ∀ x ∈ H, x < 281474976710656
section
variable {D : DiskS} {H : List Nat}
theorem slotOk {k : Nat} (h : k < 16) : slotBad (k : Int) = false := by unfold slotBad; rw [decide_eq_false (by omega), decide_eq_false (by omega)]; rfl
theorem WhD.head (h : WhD D H) (k : Nat) (hk : k < 16) : whd D (k : Int) = (((H.getD k 0 : Nat) : Int), 0) := by
  have hkl : k < H.length := by rw [h.len]; exact hk
  have hr := read_flat h.alive (low 6) 6 (low_length 6) H wslots h.slots k hkl
  simp only [Int.natCast_mul] at hr
  have hr' : D.read wslots (6 * (k : Int)) 6 = (⟨(low 6 H[k]).toArray⟩, 0) := hr
  have hnum : (⟨⟨(low 6 H[k]).toArray⟩, 0⟩ : Rdr).num 6 = ((H[k] : Int), ⟨⟨#[]⟩, 0⟩) := by have := num_low 6 H[k] (by decide) (by decide) (h.small _ (List.getElem_mem _)) []; rw [List.append_nil] at this; exact this
  unfold whd
  rw [slotOk hk, hr']
  simp only [Bool.false_eq_true, if_false, ne_eq, not_true]
  rw [hnum, List.getD_eq_getElem?_getD, List.getElem?_eq_getElem hkl]
  rfl
theorem WhD.set (h : WhD D H) (hF : dk.Form D) (k m : Nat) (hk : k < 16) (hm : m < 281474976710656) (hcap : D.size ≤ D.cap) :
    ∃ E, wset D (k : Int) (m : Int) = (0, E) ∧ WhD E (H.set k m) ∧ But D E wslots ⟨((H.set k m).flatMap (low 6)).toArray⟩ ∧ E.size = D.size := by
  have hsz : (⟨(H.flatMap (low 6)).toArray⟩ : ByteArray).size = 96 := by rw [bytes_size, flat_length (low 6) 6 (low_length 6), h.len]
  have hs2 : (⟨(low 6 m).toArray⟩ : ByteArray).size = 6 := by rw [bytes_size, low_length]
  have hf : fitsN 6 (m : Int) = true := by
    unfold fitsN
    rw [decide_eq_true (Int.natCast_nonneg _), decide_eq_true (show (m : Int) < 256 ^ 6 by show (m : Int) < (281474976710656 : Int); omega)]
    rfl
  obtain ⟨E, h1, h2, h3⟩ := write_but h.alive hF h.slots (6 * k) ⟨(low 6 m).toArray⟩ (by rw [hsz]; omega) (by rw [hsz, hs2]; omega)
  have hl : laid ⟨(H.flatMap (low 6)).toArray⟩ (6 * k) ⟨(low 6 m).toArray⟩ = ⟨((H.set k m).flatMap (low 6)).toArray⟩ := by
    refine bytes_ext ?_
    rw [bytes_laid _ _ _ (by rw [hsz, hs2]; omega), hs2]
    exact flat_set (low 6) 6 (low_length 6) m H k (by rw [h.len]; exact hk)
  rw [hl] at h2
  refine ⟨E, ?_, ⟨h2.alive, h2.this, by rw [List.length_set, h.len], fun x hx => ?_⟩, h2, by rw [h3, hsz, hs2]; omega⟩
  · unfold wset
    rw [slotOk hk, hf, ← h1]
    simp only [Bool.false_eq_true, if_false, if_true, Int.toNat_natCast]
    congr 1
  · rcases List.mem_or_eq_of_mem_set hx with hx | rfl
    · exact h.small x hx
    · exact hm
theorem wset_slot (s m : Int) (h : slotBad s = true) : wset D s m = (2, D) := by unfold wset; rw [h]; rfl
theorem wset_big (s m : Int) (h : slotBad s = false) (hm : fitsN 6 m = false) : wset D s m = (1, D) := by unfold wset; rw [h, hm]; rfl
theorem whd_slot (s : Int) (h : slotBad s = true) : whd D s = (0, 2) := by unfold whd; rw [h]; rfl
set_option maxRecDepth 10000 in
theorem noughts_low : List.replicate 96 (0 : UInt8) = (List.replicate 16 0).flatMap (low 6) := by decide
theorem wd1_bytes : laid ⟨#[]⟩ 0 (noughts 96) = ⟨((List.replicate 16 0).flatMap (low 6)).toArray⟩ := by
  refine bytes_ext ?_
  have := bytes_end ⟨#[]⟩ (noughts 96)
  rw [← noughts_low]
  refine this.trans ?_
  unfold noughts
  simp
theorem wd1_holds (b : Nat) : WhD (wd1 b) (List.replicate 16 0) := ⟨⟨rfl, rfl⟩, by rw [← wd1_bytes]; rfl, rfl, fun x hx => by rw [List.eq_of_mem_replicate hx]; decide⟩

abbrev marks (H : List Nat) : List Int := H.map fun (n : Nat) => (n : Int)
set_option maxRecDepth 100000 in
set_option maxHeartbeats 4000000 in
theorem Heads_any {p n : Nat} {F : Nat → Prop} (q : Nat) (t : Int) (w : World) (h : DiskOk w p D F n) (hq : WheelAt w q p t) (hw : WhD D H) :
    Calls Try.prog 33 #[ptrTo q] w fun e w' => ∃ v, e = .returned (.tuple #[v, .int .i64 0]) ∧ IntsAt w' v (marks H) ∧ From w.heap.size v ∧ Calm w w' := by
  have hhd := box (fun (W : World) (hc : Calm w W) (k : Nat) (hk : k < 16) => (show Calls Try.prog 34 #[ptrTo q, .int .i64 (k : Int)] W fun e w' => e = .returned (.tuple #[.int .i64 ((H.getD k 0 : Nat) : Int), .int .i64 0]) ∧ Calm W w' by
    have := Head_any q t (k : Int) W (h.calm hc) (hq.calm hc)
    rw [hw.head k hk] at this
    exact this))
  have hlen := hw.len
  have hlen' := box hlen
  clear h hq hw
  go_enter Try.func33, Try.ntmps33
  go_wp2_with fail
  go_loopw [4, 8] (fun v i wr => ∃ k : Nat, k ≤ 16 ∧ i = .int .i64 k ∧ wr.ownsRow w.heap.size 3 1 v (marks (H.take k)).length (intRow (marks (H.take k))) ∧ Calm w wr) (fun _ i _ => 16 - (intOf i).toNat)
  case atStart => exact ⟨0, Nat.zero_le _, rfl, World.ownsRow_nil _ _ _ _, .refl _⟩
  case round =>
    obtain ⟨k, hk, rfl, hrow, hc⟩ := hrel
    have Hrow := box hrow
    have Hc := box hc
    clear hrow hc
    by_cases hlt : k < 16
    · have hx := box (show H.take (k + 1) = H.take k ++ [H.getD k 0] by
        rw [List.take_succ_eq_append_getElem (by omega), List.getD_eq_getElem?_getD, List.getElem?_eq_getElem (by omega)]; rfl)
      go_wp2_with fail
      refine (hhd.out _ Hc.out k hlt).mono ?_
      obtain ⟨x, hx'⟩ : ∃ x, H.getD k 0 = x := ⟨_, rfl⟩
      rw [hx'] at hx ⊢
      clear hx'
      rintro e w1 ⟨rfl, hc1⟩
      obtain ⟨v', W2, happ, hrow2, hk2⟩ := append_int w1 w.heap.size _ (marks (H.take k)) (x : Int) (own_calm Hrow.out hc1) (Nat.le_trans Hc.out.size hc1.size) (by simp; omega) 57
      have Happ := box happ
      have Hrow2 := box hrow2
      have HC2 := box (hk2.below (B := w.heap.size) (Nat.le_trans Hc.out.size hc1.size) (fun _ h => h))
      have HC1 := box (Hc.out.trans hc1)
      clear happ hrow2 hk2 hc1
      go_wp2_with (first | (at_builtin; refine Lib.wpList_append_run _ rfl _ _ _ _ rfl _ _ rfl rfl _ _ Happ.out ?_) | fail)
      go_roundw
      case rel =>
        refine ⟨k + 1, by omega, by go_num, ?_, Below.trans HC1.out HC2.out⟩
        have := Hrow2.out
        rw [hx.out]
        unfold marks at this ⊢
        rw [List.map_append]
        exact this
      case measure => simp [intOf]; omega
    · obtain rfl : k = 16 := by omega
      have hrow := Hrow.out
      rw [List.take_of_length_le (by omega)] at hrow
      obtain ⟨h1, h2⟩ := own_ints hrow (by simp; omega)
      obtain ⟨a, cap, hv, _⟩ := h1
      subst hv
      have H1 := box (own_ints hrow (by simp; omega)).1
      have H2 := box h2
      clear hrow h2
      go_wp2_with fail
      go_ret2
      exact ⟨_, rfl, H1.out, H2.out, Hc.out⟩
end
end Go.Proofs.Ytbmhjojlbmbpkaa.wh

/- Two lists of texts are compared. -/
namespace Go.Proofs.Ytbmhjojlbmbpkaa
open Go.ChangeShapes Go.WideShapes Go.ChangeAt Go.RowKit

/-- Are two lists one? -/
theorem Texts_any (v u : Value) (l m : List ByteArray) (w : World) (h : StrsAt w v l) (g : StrsAt w u m) (hal : l.length ≤ 4294967296) (hbl : m.length ≤ 4294967296) : Calls Try.prog 30 #[v, u] w fun e w' => e = .returned (.bool (decide (l = m))) ∧ Calm w w' := by
  obtain ⟨a, acap, rfl, ha⟩ := h.uni
  obtain ⟨b, bcap, rfl, hb⟩ := g.uni
  by_cases hlen : l.length = m.length
  · have ha' := box ha
    have hb' := box hb
    have Hl := box hal
    clear ha hb hbl
    rw [← hlen]
    obtain ⟨rr, hrr⟩ : ∃ rr, decide (l = m) = rr := ⟨_, rfl⟩
    rw [hrr]
    have Hrr := box hrr.symm
    clear hrr
    go_enter Try.func30, Try.ntmps30
    go_wp2_with fail
    go_loopw [5] (fun i wr => ∃ k : Nat, k ≤ l.length ∧ i = .int .i64 k ∧ l.take k = m.take k ∧ Calm w wr) (fun i _ => l.length - (intOf i).toNat)
    case atStart => exact ⟨0, Nat.zero_le _, rfl, rfl, .refl _⟩
    case round =>
      obtain ⟨k, hk, rfl, hpre, hC⟩ := hrel
      have Hpre := box hpre
      have HC := box hC
      clear hpre hC
      by_cases hlt : k < l.length
      · obtain ⟨ab, aoff, rfl, hal2, hac⟩ := ha'.out k hlt
        obtain ⟨bb, boff, rfl, hbl2, hbc⟩ := hb'.out k (by omega)
        have hs1 := box (show l.take (k + 1) = l.take k ++ [l[k]] from List.take_succ_eq_append_getElem hlt)
        have hs2 := box (show m.take (k + 1) = m.take k ++ [m[k]'(by omega)] from List.take_succ_eq_append_getElem (by omega))
        have hne := box (fun (h : l[k] ≠ m[k]'(by omega)) => (decide_eq_false (fun e => h (by subst e; rfl)) : decide (l = m) = false))
        have hga : l.getD k ByteArray.empty = l[k] := by rw [List.getD_eq_getElem?_getD, List.getElem?_eq_getElem hlt]; rfl
        have hgb : m.getD k ByteArray.empty = m[k]'(by omega) := by rw [List.getD_eq_getElem?_getD, List.getElem?_eq_getElem (by omega)]; rfl
        rw [hga] at hac
        rw [hgb] at hbc
        clear hga hgb
        obtain ⟨x, hx⟩ : ∃ x, l[k] = x := ⟨_, rfl⟩
        obtain ⟨y, hy⟩ : ∃ y, m[k]'(by omega) = y := ⟨_, rfl⟩
        rw [hx] at hac hs1 hne
        rw [hy] at hbc hs2 hne
        clear hx hy
        have hac' := (HC.out.cell (p := ⟨ab, aoff + k, none⟩) hal2).trans hac
        have hbc' := (HC.out.cell (p := ⟨bb, boff + k, none⟩) hbl2).trans hbc
        have hal3 := Nat.lt_of_lt_of_le hal2 HC.out.size
        have hbl3 := Nat.lt_of_lt_of_le hbl2 HC.out.size
        have hki : (k : Int) < (l.length : Int) := by omega
        have hk0 : (0 : Int) ≤ (k : Int) := by omega
        clear hac hbc
        by_cases heq : x = y
        · subst heq
          go_wp2_with (first | go_quiet (fail) | fail)
          go_wp2_with fail
          go_roundw
          case rel => exact ⟨k + 1, by omega, by go_num, by rw [hs1.out, hs2.out, Hpre.out], HC.out.drewN _⟩
          case measure => simp [intOf]; omega
        · have hb1 : (x.toList == y.toList) = false := beq_eq_false_iff_ne.2 (fun e => heq (ba_ext (by rw [← Lib.toList_data, ← Lib.toList_data]; exact e)))
          have hne := box (hne.out heq)
          clear heq
          go_wp2_with (first | go_quiet (fail) | fail)
          go_wp2_with fail
          go_ret
          exact ⟨ret_bool (by rw [Hrr.out, hne.out]), HC.out.drewN _⟩
      · obtain rfl : k = l.length := by omega
        have hd : decide (l = m) = true := decide_eq_true (by
          have := Hpre.out
          rw [List.take_length, hlen, List.take_length] at this
          exact this)
        have hd := box hd
        go_wp2_with fail
        go_ret
        exact ⟨ret_bool (by rw [Hrr.out, hd.out]), HC.out⟩
  · have hd : decide (l = m) = false := decide_eq_false (fun e => hlen (by rw [e]))
    have hne : (l.length == m.length) = false := by rw [beq_eq_false_iff_ne]; exact hlen
    rw [hd]
    clear hd ha hb
    go_enter Try.func30, Try.ntmps30
    go_wp2_with fail
    all_goals first | (go_ret; exact ⟨rfl, .refl _⟩) | (exfalso; omega)
end Go.Proofs.Ytbmhjojlbmbpkaa

/- Layer 15: a wheel on a disk that had files; the document's numbers. -/
namespace Go.Proofs.Ytbmhjojlbmbpkaa.wh
open Go.ChangeShapes Go.WideShapes Go.ChangeAt Go.RowKit
open Go.Proofs.Ytbmhjojlbmbpkaa.dk Go.Proofs.Ytbmhjojlbmbpkaa.oc Go.Proofs.Ytbmhjojlbmbpkaa.fl

abbrev oldN : ByteArray := ⟨#[119, 45, 111, 108, 100]⟩
abbrev xN : ByteArray := ⟨#[120]⟩
/-- The disk ahead of the wheel. -/
def va (a : Nat) : DiskS := ⟨-1, false, 1000, [⟨oldN, a, ⟨#[]⟩, ⟨#[]⟩⟩], []⟩
def vb (a c : Nat) : DiskS := ⟨-1, false, 1000, [⟨oldN, a, ⟨#[]⟩, ⟨#[]⟩⟩, ⟨xN, c, ⟨#[]⟩, ⟨#[]⟩⟩], []⟩
def vc (c : Nat) : DiskS := ⟨-1, false, 1000, [⟨xN, c, ⟨#[]⟩, ⟨#[]⟩⟩], []⟩
def vd (c b : Nat) : DiskS := ⟨-1, false, 1000, [⟨xN, c, ⟨#[]⟩, ⟨#[]⟩⟩, ⟨wslots, b, ⟨#[]⟩, ⟨#[]⟩⟩], []⟩
/-- The disk behind it. -/
def ve (c b : Nat) : DiskS := ⟨-1, false, 1000, [⟨xN, c, ⟨#[]⟩, ⟨#[]⟩⟩, ⟨wslots, b, ⟨#[]⟩, laid ⟨#[]⟩ 0 (noughts 96)⟩], [⟨b, 0, noughts 96⟩]⟩
theorem va_make (a : Nat) : (new 1000).create oldN a = (0, va a) := by rfl
theorem vb_make (a c : Nat) : (va a).create xN c = (0, vb a c) := by rfl
theorem merge_two (x y : List UInt8) : [x, y].mergeSort (fun x y => decide (x ≤ y)) = if x ≤ y then [x, y] else [y, x] := by
  simp [List.mergeSort, List.merge]
theorem vb_names (a c : Nat) : (vb a c).names whead = [oldN] := by
  unfold DiskS.names DiskS.namesL
  rw [show ((vb a c).files.map fun f => f.name.data.toList) = [[119, 45, 111, 108, 100], [120]] from rfl, merge_two, if_pos (by decide)]
  rfl
theorem vc_make (a c : Nat) : (vb a c).delete [oldN] = (0, vc c) := by rfl
theorem vd_make (c b : Nat) : (vc c).create wslots b = (0, vd c b) := by rfl
theorem ve_make (c b : Nat) : (vd c b).write wslots 0 (noughts 96) = (0, ve c b) := by rfl
theorem wn2 (a c b : Nat) : wnew (vb a c) b = (0, ve c b) := by
  have h1 : cleared (vb a c) whead = (0, vc c) := by unfold cleared; rw [vb_names, if_neg (fun h => by cases h), vc_make]
  unfold wnew
  rw [h1, if_neg (fun h => h rfl), vd_make, if_neg (fun h => h rfl), ve_make]
theorem ve_names (c b : Nat) : (ve c b).names ⟨#[]⟩ = [wslots, xN] := by
  unfold DiskS.names DiskS.namesL
  rw [show ((ve c b).files.map fun f => f.name.data.toList) = [[120], [119, 45, 115, 108, 111, 116, 115]] from rfl, merge_two, if_neg (by decide)]
  rfl
theorem ve_holds (c b : Nat) : WhD (ve c b) (List.replicate 16 0) := ⟨⟨rfl, rfl⟩, by rw [← wd1_bytes]; rfl, rfl, fun x hx => by rw [List.eq_of_mem_replicate hx]; decide⟩
set_option maxRecDepth 100000 in
theorem ve_size (c b : Nat) : ((ve c b).size : Int) ≤ (ve c b).cap := by show ((96 : Nat) : Int) ≤ 1000; decide
/-- 'string([]byte{b})' -/
theorem byte_string (w : World) (y : Nat) : (convert 43 9 (.slice (some ⟨w.heap.size, 0, none⟩) 1 1)).run Try.prog (w.alloc (.cells #[.int .u8 ((y : Int) % 256)] 5)) = .ok (.string ⟨#[UInt8.ofNat y]⟩) (w.alloc (.cells #[.int .u8 ((y : Int) % 256)] 5)) := by
  have hb : BufIs (w.alloc (.cells #[.int .u8 ((y : Int) % 256)] 5)) w.heap.size 1 [UInt8.ofNat y] := by
    have h0 := heap_new w (.cells #[.int .u8 ((y : Int) % 256)] 5)
    refine ⟨fun j hj => ?_, fun j hj => ?_, fun j hj => free_of h0 j, by simp, by simp⟩
    · have : j = 0 := by simpa using hj
      subst this
      rw [cell_of h0]
      simp
    · have : j = 0 := by omega
      subst this
      rw [cell_of h0]
      rfl
  exact conv_string (P := Try.prog) _ 43 9 5 Try.underlying43 Try.underlying5 Try.underlying9 hb 1
set_option maxRecDepth 100000 in
/-- A number's bytes, as the document has them. -/
theorem rNum_any (n x : Nat) (w : World) (hn : n ≤ 8) (hx : x ≤ 9223372036854775807) :
    Calls Try.prog 32 #[.int .i64 n, .int .i64 x] w fun e w' => e = .returned (.string ⟨(low n x).toArray⟩) ∧ Calm w w' := by
  go_enter Try.func32, Try.ntmps32
  go_wp2_with fail
  go_loopw [1, 5, 6] (fun y s i wr => ∃ k : Nat, k ≤ n ∧ i = .int .i64 k ∧ y = .int .i64 ((x / 256 ^ k : Nat) : Int) ∧ s = .string ⟨(low k x).toArray⟩ ∧ Calm w wr) (fun _ _ i _ => n - (intOf i).toNat)
  case atStart => exact ⟨0, Nat.zero_le _, rfl, by simp, rfl, Calm.refl _⟩
  case round =>
    obtain ⟨k, hk, rfl, rfl, rfl, hcal⟩ := hrel
    have HC := box hcal
    clear hcal
    by_cases hlt : k < n
    · have hyb : x / 256 ^ k ≤ 9223372036854775807 := Nat.le_trans (Nat.div_le_self _ _) hx
      have hlow := box (show (⟨#[UInt8.ofNat (x / 256 ^ k)]⟩ : ByteArray) ++ ⟨(low k x).toArray⟩ = ⟨(low (k + 1) x).toArray⟩ from bytes_ext (by rw [append_toList]; rfl))
      have hconv := byte_string wr (x / 256 ^ k)
      have hdiv := box (show x / 256 ^ k / 256 = x / 256 ^ (k + 1) by rw [Nat.div_div_eq_div_mul, Nat.pow_succ])
      obtain ⟨y, hy⟩ : ∃ y, x / 256 ^ k = y := ⟨_, rfl⟩
      rw [hy] at hyb hlow hdiv hconv ⊢
      clear hy
      have z1 : (⟨#[UInt8.ofNat y]⟩ : ByteArray).size = 1 := rfl
      have z2 : (⟨(low k x).toArray⟩ : ByteArray).size = k := low_size k x
      obtain ⟨u, hu⟩ : ∃ u : ByteArray, ⟨#[UInt8.ofNat y]⟩ = u := ⟨_, rfl⟩
      obtain ⟨s, hs⟩ : ∃ s : ByteArray, ⟨(low k x).toArray⟩ = s := ⟨_, rfl⟩
      rw [hu] at hlow hconv z1
      rw [hs] at hlow z2 ⊢
      clear hu hs
      go_wp2_with fail
      go_roundw
      case rel => exact ⟨k + 1, by omega, by go_num, val_int (by rw [← hdiv.out]; omega), congrArg Value.string hlow.out, HC.out.alloc _⟩
      case measure => simp [intOf]; omega
    · obtain rfl : k = n := by omega
      go_wp2_with fail
      go_ret
      exact ⟨rfl, HC.out⟩
theorem small_names (c b : Nat) : ∀ f ∈ (ve c b).files, f.name.size ≤ maxLen := fun f hf => by
  simp only [ve, List.mem_cons, List.not_mem_nil, or_false] at hf
  rcases hf with rfl | rfl <;> (simp only; decide)
theorem New_old {p a c : Nat} {F : Nat → Prop} (w : World) (h : DiskOk w p (vb a c) F 0) :
    Calls Try.prog 21 #[ptrTo p, .int .i64 0] w fun e w' => ∃ q b F', e = .returned (.tuple #[ptrTo q, .int .i64 0]) ∧ DiskOk w' p (ve c b) F' 1 ∧ Step F w F' w' ∧ WheelAt w' q p 0 ∧ w.heap.size ≤ q ∧ ¬ F' q := by
  refine (New_any 0 w h (by decide) (by decide) (fun f hf => by
    simp only [vb, List.mem_cons, List.not_mem_nil, or_false] at hf
    rcases hf with rfl | rfl <;> (simp only; decide)) (by simp [vb])).mono ?_
  rintro e w' ⟨b, v, F', hb, rfl, hd, hs, hv⟩
  rw [wn2] at hd hv
  rw [wn2]
  rcases hv with ⟨_, q, rfl, hq, hlt, hF⟩ | ⟨h, _⟩
  · exact ⟨q, b, F', rfl, hd, hs, hq, hlt, hF⟩
  · exact absurd rfl h
/-- A row of sixteen numbers of one's own. -/
abbrev wantC (H : List Nat) : Array Value := (H.map fun (n : Nat) => Value.int .i64 (n : Int)).toArray
theorem want_new : madeCells #[Value.int .i64 0] 16 = wantC (List.replicate 16 0) := by kernel_rfl
theorem want_set (H : List Nat) (k y : Nat) : (wantC H).setIfInBounds k (.int .i64 (y : Int)) = wantC (H.set k y) := by
  unfold wantC; rw [List.setIfInBounds_toArray, List.map_set]
theorem want_cell {w : World} {b : Nat} {H : List Nat} (h : w.heap[b]? = some (.cells (wantC H) 3 (0, 0))) (k : Nat) (hk : k < H.length) : w.cell? ⟨b, k, none⟩ = some (.int .i64 ((H[k] : Nat) : Int)) := by
  rw [cell_of h]; simp [wantC, hk]
theorem want_ints {w : World} {b : Nat} {H : List Nat} (hl : H.length = 16) (h : w.heap[b]? = some (.cells (wantC H) 3 (0, 0))) : IntsAt w (.slice (some ⟨b, 0, none⟩) 16 16) (marks H) :=
  ⟨_, 16, by rw [List.length_map, hl], ⟨by rw [List.length_map, hl]; decide, by rw [List.length_map, hl]; decide⟩, fun k hk => ⟨b, 0, rfl, heap_lt h, by
    rw [List.length_map] at hk
    rw [Nat.zero_add, want_cell h k hk, List.getElem_map]⟩⟩
/-- 'make([]int, 16)' -/
theorem made_want (w : World) : (Instr.makeSlice 57 (.int .i64 16) (.int .i64 16)).run Try.prog w = .ok (.slice (some ⟨w.heap.size, 0, none⟩) 16 16) (w.alloc (.cells (madeCells #[Value.int .i64 0] 16) 3)) := by
  obtain ⟨i0, hi, hz0, hz1, hz2⟩ := info_parts infoInt
  have hmk := run_make (P := Try.prog) w 57 3 i0 _ Try.underlying57 hi hz0 .i64 .i64 16 16 (by omega) (Int.le_refl _) (by rw [hz2]; omega) (by omega)
  rw [hz1] at hmk
  exact hmk
theorem fits_no {y : Int} (h : y < 0 ∨ 281474976710656 ≤ y) : fitsN 6 y = false := by
  unfold fitsN
  rcases h with h | h
  · rw [decide_eq_false (by omega)]; rfl
  · rw [decide_eq_false (p := y < 256 ^ 6) (by omega), Bool.and_false]
end Go.Proofs.Ytbmhjojlbmbpkaa.wh
