/- strings.Builder: copyCheck, WriteString. -/
import Derived.Test.YtccbfekajbnehaaRows
import Derived.WalkKit
import Derived.ProofKit
import Derived.OpenShut
import Derived.Handy
import Derived.Deep.LoopGhost
import Derived.Lib.Hide
import Derived.Lib.Strings
import Derived.SizedLaws
import Derived.Maps.Own
import Derived.Maps.OwnOps
import Derived.Maps.OwnSet
import Derived.Maps.RangeWalk
import Derived.Deep.QuietTactic
import Derived.BigQuiet
import Derived.Deep.RegionHeld3
import Derived.Lib.ConvBytes
import Derived.Lib.AppendZeros
import Derived.Lib.AppendZerosOnto
import Derived.Lib.LazyBuf
import Derived.Shelf.Abstract
import Derived.LaidEql
import Derived.Lib.SliceRun
import Derived.StillTailTactics
import Derived.Deep.Slices
import Derived.Shelf.SlIter.Nil
import Derived.Ground.GgzProg
import Derived.Shelf.SortM.Plain
import Derived.Shelf.SortM.SortNone
import Derived.Ground.SlgmProg
import Derived.Shelf.SlicesE.DeleteFunc
import Derived.Ground.SlgfProg
import Derived.Test.YtccbfekajbnehaaProg
import Derived.Shelf.Strings.Builder1
import Derived.Shelf.Small.Bits
import Derived.Shelf.Strings.BuilderF
import Derived.Shelf.Strings.BuilderK
import Derived.Shelf.Strconv.Itoa0
import Derived.Shelf.Sort.Plain
import Derived.Shelf.Strings.Prefix
import Derived.Shelf.Strings.BuilderCap
import Derived.Shelf.Slices.In.SortNone
import Derived.Shelf.SlicesE.IndexFunc
import Derived.Laws.MakeOwn
import Derived.Lib.Builder
import Derived.Lib.AppendStr
import Derived.Test.YtccbfekajbnehaaPk14
namespace Go.Proofs.Ytccbfekajbnehaa.oc
open Go.ChangeShapes Go.WideShapes Go.ChangeAt Go.RowKit

abbrev BT : TypeId := 121
theorem sizeB : (Try.prog.info? BT).map (·.size) = some 2 := by kernel_rfl
theorem liesB : liesAt Try.prog Try.prog.depth BT (2 / Try.prog.cellsOf BT) 0 BT 1 = true := by kernel_rfl
theorem infoU8 : (Try.prog.info? 5).map (fun i => (i.zero, i.size, i.bytes)) = some (some (.int .u8 0), 1, 1) := by kernel_rfl
set_option maxHeartbeats 1000000 in
set_option maxRecDepth 100000 in
theorem copyCheck_any (B b : Nat) (bs : List Value) (w : World) (h : Lib.IsBuilder BT 5 B b bs w) :
    Calls Try.prog 69 #[.pointer (some ⟨b, 0, none⟩)] w fun e w' => e = .returned (.tuple #[]) ∧ Lib.BuilderAt BT 5 B b (.pointer (some ⟨b, 0, none⟩)) bs w' ∧ Below B w w' := by
  obtain ⟨j, hj, hjs⟩ := Option.map_eq_some_iff.1 sizeB
  rcases h with h | h
  · have H := box h
    have h0 := h.cell0
    have hfz := h.frozen0
    have hsh := box h.shape
    clear h
    go_enter Try.func69, Try.ntmps69
    go_wp2
    rw [Lib.run_to_unsafe w ⟨b, 0, none⟩ Try.underlying119 Try.underlying146 hj (by rw [hjs]; decide) hsh.out (Nat.zero_lt_succ 1)]
    simp only [Result.andThen]
    rw [Oper.upon_value]
    go_wp2
    rw [run_callFunc_extern Try.func82 (by kernel_rfl) (by kernel_rfl) (by kernel_rfl) (e := Extern.AbiNoEscape.same) (by kernel_rfl)]
    rw [Lib.run_noEscape]
    simp only [Result.andThen]
    rw [Oper.upon_value]
    go_wp2
    rw [Lib.run_from_unsafe w ⟨b, 0, none⟩ Try.underlying146 Try.underlying119 hj hsh.out liesB]
    simp only [Result.andThen]
    rw [Oper.upon_value]
    go_wp2
    go_end0
    exact ⟨rfl, H.out.used _, (Below.refl B w).setCell (p := ⟨b, 0, none⟩) H.out.1 _⟩
  · have H := box h
    have h0 := h.cell0
    clear h
    go_enter Try.func69, Try.ntmps69
    go_wp2
    rw [Lib.run_neq_ptr_same w _ Try.underlying119 hj]
    go_wp2
    go_end0
    exact ⟨rfl, H.out, Below.refl B _⟩

set_option maxHeartbeats 2000000 in
set_option maxRecDepth 100000 in
theorem WriteString_any (B b : Nat) (bs : List Value) (s : ByteArray) (w : World) (h : Lib.IsBuilder BT 5 B b bs w) (hlen : bs.length + s.size ≤ 140737488355328) (hBw : B ≤ w.heap.size) :
    Calls Try.prog 61 #[.pointer (some ⟨b, 0, none⟩), .string s] w fun e w' => e = .returned (.tuple #[.int .i64 s.size, .nilIface]) ∧ Lib.BuilderAt BT 5 B b (.pointer (some ⟨b, 0, none⟩)) (bs ++ Lib.strCells s) w' ∧ Below B w w' := by
  obtain ⟨i0, hi, hz0, hz1, hz2⟩ := info_parts infoU8
  have hcc := box (copyCheck_any B b bs w h)
  clear h
  go_enter Try.func61, Try.ntmps61
  go_wp2_with fail
  refine hcc.out.mono ?_
  rintro e w1 ⟨rfl, h1, hb1⟩
  obtain ⟨hB, v, hbk, hown, hne⟩ := h1
  have c0 : w1.cell? ⟨b, 0, none⟩ = some (.pointer (some ⟨b, 0, none⟩)) := cell_of hbk 0
  have c1 : w1.cell? ⟨b, 1, none⟩ = some v := cell_of hbk 1
  go_wp2_with (at_builtin; refine Lib.wpList_append_own_string _ rfl _ _ 69 9 rfl B 5 i0 Try.underlying69 Try.underlying9 hi hz0 hz1 hz2 _ _ _ rfl hown s rfl ?c3 ?c4 ?c5 ?_)
  case c3 => unfold maxLen; omega
  case c4 => omega
  case c5 => have := hb1.size; omega
  intro v' w2 hown' hgrow _
  have hlt : b < w1.heap.size := heap_lt hbk
  have hb2 : w2.heap[b]? = some (.cells #[.pointer (some ⟨b, 0, none⟩), v] BT (0, 0)) := by
    rw [hgrow.block b hlt (fun e => hne e.symm)]
    exact hbk
  have d0 : w2.cell? ⟨b, 0, none⟩ = some (.pointer (some ⟨b, 0, none⟩)) := cell_of hb2 0
  have d1 : w2.cell? ⟨b, 1, none⟩ = some v := cell_of hb2 1
  have f1 : w2.frozen? ⟨b, 1, none⟩ = false := free_of hb2 1
  obtain ⟨ao, n', cap, rfl⟩ : ∃ ao n' cap, v' = .slice ao n' cap := by
    rcases hown'.2 with ⟨hv, _⟩ | ⟨g, cap, cur, hv, _⟩
    · exact ⟨_, _, _, hv⟩
    · exact ⟨_, _, _, hv⟩
  go_wp2
  go_ret2
  refine ⟨rfl, ?_, ?_⟩
  · exact Lib.BuilderAt.put (T := BT) (e := 5) hB hb2 (bs' := bs ++ Lib.strCells s) (by simpa [Lib.strCells_length] using hown') (by decide)
  · exact (hb1.grown hgrow (by have := hb1.size; omega) (fun k hk => (hown.lt k hk).1)).setCell (p := ⟨b, 1, none⟩) hB _
end Go.Proofs.Ytccbfekajbnehaa.oc

/- Layer 1: numbers' bytes. -/
namespace Go.Proofs.Ytccbfekajbnehaa.oc
open Go.ChangeShapes Go.WideShapes Go.ChangeAt Go.RowKit

def fitsN (n : Nat) (x : Int) : Bool := decide (0 ≤ x) && decide (x < 256 ^ n)
def lowN (n : Nat) (l : List Int) : List UInt8 := l.flatMap fun x => low n x.toNat
/-- Numbers' bytes, and the error's number. -/
def numB (n : Int) (l : List Int) : ByteArray × Int :=
  if n < 1 ∨ 7 < n then (⟨#[]⟩, 1) else if l.all (fitsN n.toNat) then (⟨(lowN n.toNat l).toArray⟩, 0) else (⟨#[]⟩, 2)
theorem fits_div (m : Nat) (h1 : 1 ≤ m) (h7 : m ≤ 7) (x : Int) : fitsN m x = (decide (0 ≤ x) && !(x / 2 ^ (8 * m) != 0)) := by
  have hc : m = 1 ∨ m = 2 ∨ m = 3 ∨ m = 4 ∨ m = 5 ∨ m = 6 ∨ m = 7 := by omega
  unfold fitsN
  rw [Bool.eq_iff_iff]
  rcases hc with rfl | rfl | rfl | rfl | rfl | rfl | rfl <;> simp <;> omega
theorem low_size (n x : Nat) : (⟨(low n x).toArray⟩ : ByteArray).size = n := by show (low n x).toArray.size = n; simp [low_length]
theorem lowN_length (n : Nat) (l : List Int) : (lowN n l).length = l.length * n := by
  unfold lowN
  induction l with
  | nil => simp
  | cons x l ih => rw [List.flatMap_cons, List.length_append, low_length, ih, List.length_cons, Nat.succ_mul, Nat.add_comm]
theorem lowN_snoc (n : Nat) (l : List Int) (k : Nat) (hk : k < l.length) : lowN n (l.take (k + 1)) = lowN n (l.take k) ++ low n l[k].toNat := by
  unfold lowN; rw [List.take_succ_eq_append_getElem hk, List.flatMap_append]; simp
theorem _root_.Go.Lib.BuilderAt.calm' {T e : TypeId} {B b : Nat} {p : Value} {bs : List Value} {w w' : World} (h : Lib.BuilderAt T e B b p bs w) (hc : Calm w w') : Lib.BuilderAt T e B b p bs w' := by
  obtain ⟨hB, v, hb, hrow, hne⟩ := h
  refine ⟨hB, v, heap_calm hc hb, ?_, hne⟩
  obtain ⟨h1, h2⟩ := hrow
  refine ⟨h1, ?_⟩
  rcases h2 with h2 | ⟨g, cap, cur, e1, r1, r2, r3⟩
  · exact .inl h2
  · exact .inr ⟨g, cap, cur, e1, r1, heap_calm hc r2, r3⟩
theorem _root_.Go.Lib.IsBuilder.calm' {T e : TypeId} {B b : Nat} {bs : List Value} {w w' : World} (h : Lib.IsBuilder T e B b bs w) (hc : Calm w w') : Lib.IsBuilder T e B b bs w' := h.imp (·.calm' hc) (·.calm' hc)
/-- Numbers lie under a slice's address. -/
def IntsAt (w : World) (a : Option Addr) (l : List Int) : Prop := ∀ k (hk : k < l.length), ∃ b off, a = some ⟨b, off, none⟩ ∧ b < w.heap.size ∧ w.cell? ⟨b, off + k, none⟩ = some (.int .i64 l[k])
theorem IntsAt.below {w w' : World} {a : Option Addr} {l : List Int} {B : Nat} (h : IntsAt w a l) (hB : w.heap.size = B) (hc : Below B w w') : IntsAt w' a l := fun k hk => by
  obtain ⟨b, off, e, hb, hcell⟩ := h k hk
  exact ⟨b, off, e, Nat.lt_of_lt_of_le hb (by have := hc.size; omega), by rw [hc.cell (p := ⟨b, off + k, none⟩) (by show b < B; omega)]; exact hcell⟩

set_option maxRecDepth 100000 in
set_option maxHeartbeats 4000000 in
theorem Num_any (n : Int) (a : Option Addr) (cap : Nat) (l : List Int) (w : World) (h : IntsAt w a l) (hl : l.length ≤ 1000000) (hi : ∀ x ∈ l, -9223372036854775808 ≤ x ∧ x ≤ 9223372036854775807) :
    Calls Try.prog 47 #[.int .i64 n, .slice a l.length cap] w fun e w' => e = .returned (.tuple #[.string (numB n l).1, .int .i64 (numB n l).2]) ∧ Calm w w' := by
  by_cases hn : n < 1 ∨ 7 < n
  · have hr := box (show numB n l = (⟨#[]⟩, 1) by unfold numB; rw [if_pos hn])
    rw [hr.out]
    have hn' : n < 1 ∨ (1 ≤ n ∧ 7 < n) := by omega
    clear hn
    rcases hn' with h1 | ⟨h1, h2⟩
    all_goals
      go_enter Try.func47, Try.ntmps47
      go_wp2_with fail
      go_ret2
      exact ⟨rfl, .refl _⟩
  · obtain ⟨m, rfl⟩ : ∃ m : Nat, n = m := ⟨n.toNat, by omega⟩
    have hm1 : 1 ≤ m := by omega
    have hm7 : m ≤ 7 := by omega
    have hr := box (show numB m l = if l.all (fitsN m) then (⟨(lowN m l).toArray⟩, 0) else (⟨#[]⟩, 2) by unfold numB; rw [if_neg hn]; rfl)
    have H := box h
    have Hi := box hi
    clear h hi hn
    go_enter Try.func47, Try.ntmps47
    go_wp2_with fail
    go_loopw [17] (fun i wr => ∃ k : Nat, k ≤ l.length ∧ i = .int .i64 k ∧ (l.take k).all (fitsN m) = true ∧ Lib.IsBuilder BT 5 w.heap.size w.heap.size (Lib.byteCells (lowN m (l.take k))) wr ∧ Calm w wr) (fun i _ => l.length - (intOf i).toNat)
    case atStart =>
      exact ⟨0, Nat.zero_le _, rfl, rfl, .inl ⟨Nat.le_refl _, .slice none 0 0, heap_new w _, World.ownsRow_nil _ _ _ _, by simp [Value.ownBlock]⟩, (Calm.refl w).alloc _⟩
    case round =>
      obtain ⟨k, hk, rfl, hall, hB, hC⟩ := hrel
      have Hall := box hall
      have HB := box hB
      have HC := box hC
      clear hall hB hC
      by_cases hlt : k < l.length
      · obtain ⟨b, off, rfl, hb, hcell⟩ := H.out.below rfl HC.out k hlt
        obtain ⟨x, hx⟩ : ∃ x, l[k] = x := ⟨_, rfl⟩
        obtain ⟨hx1, hx2⟩ := Hi.out l[k] (List.getElem_mem hlt)
        have hsn := box (lowN_snoc m l k hlt)
        have has := box (show (l.take (k + 1)).all (fitsN m) = ((l.take k).all (fitsN m) && fitsN m l[k]) by rw [List.take_succ_eq_append_getElem hlt, List.all_append]; simp)
        rw [hx] at hcell hx1 hx2 hsn has
        have q8 : IntKind.i64.wrap (8 * (m : Int)) = 8 * m := IntWalk.i64_in _ (by omega)
        have hfd := box (fits_div m hm1 hm7 x)
        have hbad := box (fun (hf : fitsN m x = false) => (show numB m l = (⟨#[]⟩, 2) by
          rw [hr.out, if_neg]
          rw [List.all_eq_true]
          intro hh
          have := hh l[k] (List.getElem_mem hlt)
          rw [hx, hf] at this
          cases this))
        have hlen := box (lowN_length m (l.take k))
        clear hx
        go_wp2_with fail
        all_goals first
          | (have hh : x < 0 ∨ (x / 2 ^ (8 * m) != 0) = true := by first | assumption | exact .inl (by assumption)
             have hb2 := hbad.out (by rw [hfd.out]; rcases hh with h | h; rw [decide_eq_false (by omega)]; rfl; rw [h]; simp)
             go_ret2
             exact ⟨ret_tup2 (by rw [hb2]; rfl) (by rw [hb2]; rfl), HC.out⟩)
          | skip
        have hok := box (show fitsN m x = true by
          have hh : 0 ≤ x ∧ (x / 2 ^ (8 * m) != 0) = false := by assumption
          rw [hfd.out, hh.2, decide_eq_true hh.1]; rfl)
        have hx0 : 0 ≤ x := by have := hok.out; unfold fitsN at this; simp at this; exact this.1
        obtain ⟨y, rfl⟩ : ∃ y : Nat, x = y := ⟨x.toNat, by omega⟩
        refine (put_any m y _ (by omega) (by omega)).mono ?_
        rintro e w2 ⟨rfl, hc2⟩
        have HB2 := box (HB.out.calm' hc2)
        have HC2 := box (HC.out.trans hc2)
        clear hc2
        go_wp2_with fail
        refine (WriteString_any w.heap.size w.heap.size _ ⟨(low m y).toArray⟩ _ HB2.out (by rw [Lib.byteCells_length, hlen.out, low_size, List.length_take]; have : min k l.length * m ≤ 1000000 * 7 := Nat.mul_le_mul (by omega) (by omega); omega) (by exact HC2.out.size)).mono ?_
        rintro e w3 ⟨rfl, hb3, hc3⟩
        have HB3 := box hb3
        have HC3 := box (Below.trans HC2.out hc3)
        clear hb3 hc3
        go_wp2_with fail
        go_roundw
        case rel =>
          refine ⟨k + 1, by omega, by go_num, by rw [has.out, Hall.out, hok.out]; rfl, ?_, HC3.out⟩
          rw [hsn.out, Lib.byteCells_append]
          exact .inr HB3.out
        case measure => simp [intOf]; omega
      · obtain rfl : k = l.length := by omega
        have hr := box (show numB m l = (⟨(lowN m l).toArray⟩, 0) by
          have := Hall.out
          rw [List.take_length] at this
          rw [hr.out, if_pos this])
        have HB := box (show Lib.IsBuilder BT 5 w.heap.size w.heap.size (Lib.byteCells (lowN m l)) wr by have := HB.out; rw [List.take_length] at this; exact this)
        go_wp2_with fail
        refine (Try.Builder_String_any w.heap.size w.heap.size _ wr HB.out (by exact HC.out.size)).mono ?_
        rintro e w2 ⟨rfl, hc2⟩
        have HC2 := box (Below.trans HC.out hc2)
        clear hc2
        go_wp2_with fail
        go_ret2
        exact ⟨ret_tup2 (by rw [hr.out]; rfl) (by rw [hr.out]; rfl), HC2.out⟩
end Go.Proofs.Ytccbfekajbnehaa.oc

/- Layer 15: a wheel. -/
namespace Go.Proofs.Ytccbfekajbnehaa.wh
open Go.ChangeShapes Go.WideShapes Go.ChangeAt Go.RowKit
open Go.Proofs.Ytccbfekajbnehaa.dk Go.Proofs.Ytccbfekajbnehaa.oc

theorem err_cases (r : Int) : r = 0 ∨ ((r == 0) = false ∧ (r != 0) = true ∧ Box (r ≠ 0)) := by
  by_cases h : r = 0
  · exact .inl h
  · exact .inr ⟨beq_eq_false_iff_ne.2 h, bne_iff_ne.2 h, box h⟩

abbrev wslots : ByteArray := ⟨#[119, 45, 115, 108, 111, 116, 115]⟩
abbrev whead : ByteArray := ⟨#[119, 45]⟩
def noughts (n : Nat) : ByteArray := ⟨(List.replicate n (0 : UInt8)).toArray⟩
/-- All files of a head go. -/
def cleared (D : DiskS) (hd : ByteArray) : Int × DiskS := if D.names hd = [] then (0, D) else D.delete (D.names hd)
def wnew (D : DiskS) (b : Nat) : Int × DiskS :=
  if (cleared D whead).1 ≠ 0 then cleared D whead else
  if ((cleared D whead).2.create wslots b).1 ≠ 0 then (cleared D whead).2.create wslots b else
  ((cleared D whead).2.create wslots b).2.write wslots 0 (noughts 96)

/-- A wheel lies at q, over the disk at p; its hand. -/
def WheelAt (w : World) (q p : Nat) (t : Int) : Prop := w.heap[q]? = some (.cells #[ptrTo p, .int .i64 t] 73 (0, 0))
theorem WheelAt.calm {w w' : World} {q p : Nat} {t : Int} (h : WheelAt w q p t) (hc : Calm w w') : WheelAt w' q p t := heap_calm hc h
theorem WheelAt.keep {w w' : World} {q p : Nat} {t : Int} {F : Nat → Prop} (h : WheelAt w q p t) (k : Keeps F w w') (hq : ¬ F q) : WheelAt w' q p t := (k.block q (heap_lt h) hq).trans h
theorem WheelAt.cells {w : World} {q p : Nat} {t : Int} (h : WheelAt w q p t) : w.cell? ⟨q, 0, none⟩ = some (ptrTo p) ∧ w.cell? ⟨q, 1, none⟩ = some (.int .i64 t) ∧ w.frozen? ⟨q, 0, none⟩ = false ∧ w.frozen? ⟨q, 1, none⟩ = false ∧ q < w.heap.size :=
  ⟨cell_of h 0, cell_of h 1, free_of h 0, free_of h 1, heap_lt h⟩

def WNew (D : DiskS) (p : Nat) (F : Nat → Prop) (n : Nat) (t : Int) (w : World) (e : Ending) (w' : World) : Prop :=
  ∃ b v F', w.heap.size ≤ b ∧ e = .returned (.tuple #[v, .int .i64 (wnew D b).1]) ∧ DiskOk w' p (wnew D b).2 F' (n + 1) ∧ Step F w F' w' ∧
    (((wnew D b).1 = 0 ∧ ∃ q, v = ptrTo q ∧ WheelAt w' q p t ∧ w.heap.size ≤ q ∧ ¬ F' q) ∨ ((wnew D b).1 ≠ 0 ∧ v = .pointer none))

theorem NewBad_any (v : Value) (t : Int) (w : World) (h : v = .pointer none ∨ (∃ p, v = ptrTo p ∧ (t < 0 ∨ 1099511627776 < t))) :
    Calls Try.prog 14 #[v, .int .i64 t] w fun e w' => e = .returned (.tuple #[.pointer none, .int .i64 1]) ∧ w = w' := by
  rcases h with rfl | ⟨p, rfl, h⟩
  · go_enter Try.func14, Try.ntmps14
    go_wp2
    go_ret2
    exact ⟨rfl, rfl⟩
  · have h' : t < 0 ∨ (0 ≤ t ∧ 1099511627776 < t) := by omega
    clear h
    rcases h' with h | ⟨h1, h2⟩
    all_goals
      go_enter Try.func14, Try.ntmps14
      go_wp2
      go_ret2
      exact ⟨rfl, rfl⟩

theorem infoByte : (Try.prog.info? 5).map (fun i => (i.zero, i.size, i.bytes)) = some (some (.int .u8 0), 1, 1) := by kernel_rfl
/-- string(make([]byte, n)), the two runs. -/
theorem made_string (w : World) (n : Nat) (z : Int) (hz : z = n) (hn : n ≤ 1000000) : (Instr.makeSlice 69 (.int .i64 z) (.int .i64 z)).run Try.prog w = .ok (.slice (some ⟨w.heap.size, 0, none⟩) n n) (w.alloc (.cells (madeCells #[Value.int .u8 0] n) 5)) ∧
    (convert 69 9 (.slice (some ⟨w.heap.size, 0, none⟩) n n)).run Try.prog (w.alloc (.cells (madeCells #[Value.int .u8 0] n) 5)) = .ok (.string (noughts n)) (w.alloc (.cells (madeCells #[Value.int .u8 0] n) 5)) := by
  subst hz
  obtain ⟨i0, hi, hz0, hz1, hz2⟩ := info_parts infoByte
  have hmk := run_make (P := Try.prog) w 69 5 i0 _ Try.underlying69 hi hz0 .i64 .i64 n n (by omega) (Int.le_refl _) (by rw [hz2]; omega) (by omega)
  simp only [hz1, Int.toNat_natCast, Nat.mul_one] at hmk
  have hback := conv_string (P := Try.prog) _ 69 9 5 Try.underlying69 Try.underlying5 Try.underlying9 (made_bytes w n) n
  rw [List.length_replicate] at hback
  exact ⟨hmk, hback⟩

set_option maxRecDepth 100000 in
set_option maxHeartbeats 8000000 in
theorem New_any {p n : Nat} {D : DiskS} {F : Nat → Prop} (t : Int) (w : World) (h : DiskOk w p D F n) (hn : n ≤ 999999) (ht : 0 ≤ t ∧ t ≤ 1099511627776) (hs : ∀ f ∈ D.files, f.name.size ≤ maxLen) (hl : D.files.length ≤ 1000000) :
    Calls Try.prog 14 #[ptrTo p, .int .i64 t] w (WNew D p F n t w) := by
  obtain ⟨ht0, ht1⟩ := ht
  have H := box h
  have hlist := box (List_any whead w h.lies hs hl)
  have hnl : (D.names whead).length ≤ 1000000 := by
    unfold DiskS.names DiskS.namesL
    rw [List.length_map]
    refine Nat.le_trans (List.length_filter_le _ _) ?_
    simpa using hl
  have Hnl := box hnl
  clear h hs hl hnl
  obtain ⟨l, hl⟩ : ∃ l, D.names whead = l := ⟨_, rfl⟩
  have hclr := box (show cleared D whead = if l = [] then (0, D) else D.delete l by unfold cleared; rw [hl])
  unfold ListDone at hlist
  rw [hl] at hlist Hnl
  clear hl
  cases l with
  | nil =>
    have hcl := box (show cleared D whead = (0, D) by rw [hclr.out, if_pos rfl])
    go_enter Try.func14, Try.ntmps14
    go_wp2_with fail
    refine hlist.out.mono ?_
    rintro e w1 ⟨v, rfl, hv, hc1, _⟩
    obtain ⟨la, lcap, rfl, _⟩ := hv.uni
    have H1 := box (H.out.calm hc1)
    have S1 := box (Step.of_calm (F := F) hc1)
    clear hv hc1
    obtain ⟨E1, hE1⟩ : ∃ E, D = E := ⟨_, rfl⟩
    rw [hE1] at H1
    have hcl := box (show cleared D whead = (0, E1) by rw [hcl.out, hE1])
    clear hE1
    obtain ⟨F1, hF1⟩ : ∃ G, F = G := ⟨_, rfl⟩
    rw [hF1] at H1
    have S1 : Box (Step F w F1 w1) := by rw [hF1] at S1 ⊢; exact S1
    clear hF1
    go_wp2_with fail
    refine (Create_ok wslots w1 H1.out).mono ?_
    rintro e w2 ⟨b, hb, h2⟩
    obtain ⟨⟨r2, E2⟩, hr2⟩ : ∃ r, E1.create wslots b = r := ⟨_, rfl⟩
    obtain ⟨rfl, F2, h2, hs2⟩ := h2.at hr2
    have H2 := box h2
    have S2 := box (S1.out.trans hs2)
    have Hr2 := box hr2
    have Hb := box (show w.heap.size ≤ b from Nat.le_trans S1.out.keeps.size hb)
    clear h2 hs2 hb hr2
    rcases err_cases r2 with rfl | ⟨x1, x2, x3⟩
    · obtain ⟨hmk, hcv⟩ := made_string w2 96 96 rfl (by decide)
      have hcm := box ((Calm.refl w2).alloc (.cells (madeCells #[Value.int .u8 0] 96) 5))
      go_wp2_with fail
      refine (Write_ok wslots (noughts 96) 0 _ (H2.out.calm hcm.out) (by omega) (by decide)).mono ?_
      intro e w3 h3
      obtain ⟨⟨r3, E3⟩, hr3⟩ : ∃ r, E2.write wslots 0 (noughts 96) = r := ⟨_, rfl⟩
      obtain ⟨rfl, F3, h3, hs3⟩ := h3.at hr3
      have H3 := box h3
      have S3 := box ((S2.out.calm hcm.out).trans hs3)
      have hw := box (show wnew D b = (r3, E3) by unfold wnew; rw [hcl.out]; simp only [ne_eq, not_true, if_false]; rw [Hr2.out]; simp only [not_true, if_false]; exact hr3)
      clear h3 hs3 hr3 hmk hcv
      rcases err_cases r3 with rfl | ⟨x1, x2, x3⟩
      · have hnew := box (heap_new w3 (.cells #[ptrTo p, .int .i64 t] 73))
        go_wp2_with fail
        go_ret2
        refine ⟨b, _, F3, Hb.out, ret_tup2 rfl (by rw [hw.out]; rfl), by rw [hw.out]; exact H3.out.calm ((Calm.refl w3).alloc _), S3.out.calm ((Calm.refl w3).alloc _), .inl ⟨by rw [hw.out], w3.heap.size, rfl, hnew.out, S3.out.keeps.size, fun hf => ?_⟩⟩
        have := H3.out.foot_lt _ hf
        omega
      · go_wp2_with fail
        go_ret2
        exact ⟨b, _, F3, Hb.out, ret_tup2 rfl (by rw [hw.out]; rfl), by rw [hw.out]; exact H3.out, S3.out, .inr ⟨by rw [hw.out]; exact x3.out, rfl⟩⟩
    · have hw := box (show wnew D b = (r2, E2) by unfold wnew; rw [hcl.out]; simp only [ne_eq, not_true, if_false]; rw [Hr2.out]; simp only [x3.out, not_false_eq_true, if_true])
      go_wp2_with fail
      go_ret2
      exact ⟨b, _, F2, Hb.out, ret_tup2 rfl (by rw [hw.out]; rfl), by rw [hw.out]; exact H2.out.mono (by omega), S2.out, .inr ⟨by rw [hw.out]; exact x3.out, rfl⟩⟩
  | cons x l =>
    have hcl0 := box (show cleared D whead = D.delete (x :: l) by rw [hclr.out, if_neg (by simp)])
    have hlen : (x :: l).length = l.length + 1 := rfl
    go_enter Try.func14, Try.ntmps14
    go_wp2_with fail
    refine hlist.out.mono ?_
    rintro e w0 ⟨v, rfl, hv, hc1, hfr⟩
    obtain ⟨la, lcap, rfl, _⟩ := hv.uni
    have Hv := box hv
    have H0 := box (H.out.calm hc1)
    have S0 := box (Step.of_calm (F := F) hc1)
    have hap := box (show Apart (.slice la (x :: l).length lcap) F from fun a n' c' e _ hf => by
      have := hfr a n' c' e
      have := H.out.foot_lt _ hf
      omega)
    clear hv hc1 hfr
    rw [hlen]
    go_wp2_with fail
    refine (Delete_ok (.slice la (l.length + 1) lcap) (x :: l) w0 H0.out (by omega) Hv.out hap.out (by have := Hnl.out; omega)).mono ?_
    intro e w1 h1
    obtain ⟨⟨r1, E1⟩, hr1⟩ : ∃ r, D.delete (x :: l) = r := ⟨_, rfl⟩
    obtain ⟨rfl, F1, h1, hs1⟩ := h1.at hr1
    have H1 := box h1
    have S1 := box (S0.out.trans hs1)
    have hcl1 := box (hcl0.out.trans hr1)
    clear h1 hs1 hr1
    rcases err_cases r1 with rfl | ⟨y1, y2, y3⟩
    · have hcl := hcl1
      go_wp2_with fail
      refine (Create_ok wslots w1 H1.out).mono ?_
      rintro e w2 ⟨b, hb, h2⟩
      obtain ⟨⟨r2, E2⟩, hr2⟩ : ∃ r, E1.create wslots b = r := ⟨_, rfl⟩
      obtain ⟨rfl, F2, h2, hs2⟩ := h2.at hr2
      have H2 := box h2
      have S2 := box (S1.out.trans hs2)
      have Hr2 := box hr2
      have Hb := box (show w.heap.size ≤ b from Nat.le_trans S1.out.keeps.size hb)
      clear h2 hs2 hb hr2
      rcases err_cases r2 with rfl | ⟨x1, x2, x3⟩
      · obtain ⟨hmk, hcv⟩ := made_string w2 96 96 rfl (by decide)
        have hcm := box ((Calm.refl w2).alloc (.cells (madeCells #[Value.int .u8 0] 96) 5))
        go_wp2_with fail
        refine (Write_ok wslots (noughts 96) 0 _ (H2.out.calm hcm.out) (by omega) (by decide)).mono ?_
        intro e w3 h3
        obtain ⟨⟨r3, E3⟩, hr3⟩ : ∃ r, E2.write wslots 0 (noughts 96) = r := ⟨_, rfl⟩
        obtain ⟨rfl, F3, h3, hs3⟩ := h3.at hr3
        have H3 := box h3
        have S3 := box ((S2.out.calm hcm.out).trans hs3)
        have hw := box (show wnew D b = (r3, E3) by unfold wnew; rw [hcl.out]; simp only [ne_eq, not_true, if_false]; rw [Hr2.out]; simp only [not_true, if_false]; exact hr3)
        clear h3 hs3 hr3 hmk hcv
        rcases err_cases r3 with rfl | ⟨x1, x2, x3⟩
        · have hnew := box (heap_new w3 (.cells #[ptrTo p, .int .i64 t] 73))
          go_wp2_with fail
          go_ret2
          refine ⟨b, _, F3, Hb.out, ret_tup2 rfl (by rw [hw.out]; rfl), by rw [hw.out]; exact H3.out.calm ((Calm.refl w3).alloc _), S3.out.calm ((Calm.refl w3).alloc _), .inl ⟨by rw [hw.out], w3.heap.size, rfl, hnew.out, S3.out.keeps.size, fun hf => ?_⟩⟩
          have := H3.out.foot_lt _ hf
          omega
        · go_wp2_with fail
          go_ret2
          exact ⟨b, _, F3, Hb.out, ret_tup2 rfl (by rw [hw.out]; rfl), by rw [hw.out]; exact H3.out, S3.out, .inr ⟨by rw [hw.out]; exact x3.out, rfl⟩⟩
      · have hw := box (show wnew D b = (r2, E2) by unfold wnew; rw [hcl.out]; simp only [ne_eq, not_true, if_false]; rw [Hr2.out]; simp only [x3.out, not_false_eq_true, if_true])
        go_wp2_with fail
        go_ret2
        exact ⟨b, _, F2, Hb.out, ret_tup2 rfl (by rw [hw.out]; rfl), by rw [hw.out]; exact H2.out.mono (by omega), S2.out, .inr ⟨by rw [hw.out]; exact x3.out, rfl⟩⟩
    · have hw := box (show ∀ b, wnew D b = (r1, E1) by intro b; unfold wnew; rw [hcl1.out]; simp only [ne_eq, y3.out, not_false_eq_true, if_true])
      go_wp2_with fail
      go_ret2
      exact ⟨w.heap.size, _, F1, Nat.le_refl _, ret_tup2 rfl (by rw [hw.out]; rfl), by rw [hw.out]; exact H1.out.mono (by omega), S1.out, .inr ⟨by rw [hw.out]; exact y3.out, rfl⟩⟩
end Go.Proofs.Ytccbfekajbnehaa.wh

/- Layer 15: a wheel's slots and its hand. -/
namespace Go.Proofs.Ytccbfekajbnehaa.wh
open Go.ChangeShapes Go.WideShapes Go.ChangeAt Go.RowKit
open Go.Proofs.Ytccbfekajbnehaa.dk Go.Proofs.Ytccbfekajbnehaa.oc

theorem _root_.Go.Proofs.Ytccbfekajbnehaa.Step.apart {F F' : Nat → Prop} {w w' : World} (s : Step F w F' w') {q : Nat} (hq : ¬ F q) (lt : q < w.heap.size) : ¬ F' q := fun h => by
  rcases s.foot q h with h | h
  · exact hq h
  · omega

def slotBad (s : Int) : Bool := decide (s < 0) || decide (16 ≤ s)
theorem bars_any (q p : Nat) (t s : Int) (w : World) (h : WheelAt w q p t) : Calls Try.prog 43 #[ptrTo q, .int .i64 s] w fun e w' => e = .returned (.int .i64 (if slotBad s then 2 else 0)) ∧ w = w' := by
  clear h
  by_cases h1 : s < 0
  · have hb : slotBad s = true := by unfold slotBad; rw [decide_eq_true h1]; rfl
    rw [hb]
    clear hb
    go_enter Try.func43, Try.ntmps43
    go_wp2
    go_ret
    exact ⟨rfl, rfl⟩
  · by_cases h2 : 16 ≤ s
    · have hb : slotBad s = true := by unfold slotBad; rw [decide_eq_true h2]; simp
      rw [hb]
      clear hb
      go_enter Try.func43, Try.ntmps43
      go_wp2
      go_ret
      exact ⟨rfl, rfl⟩
    · have hb : slotBad s = false := by unfold slotBad; rw [decide_eq_false h1, decide_eq_false h2]; rfl
      rw [hb]
      clear hb
      go_enter Try.func43, Try.ntmps43
      go_wp2
      go_ret
      exact ⟨rfl, rfl⟩
theorem barsNil_any (s : Int) (w : World) : Calls Try.prog 43 #[.pointer none, .int .i64 s] w fun e w' => e = .returned (.int .i64 1) ∧ w = w' := by
  go_enter Try.func43, Try.ntmps43
  go_wp2
  go_ret
  exact ⟨rfl, rfl⟩

/-- A slot's last mark, and the error's number. -/
def whd (D : DiskS) (s : Int) : Int × Int :=
  if slotBad s then (0, 2) else if (D.read wslots (6 * s) 6).2 ≠ 0 then (0, (D.read wslots (6 * s) 6).2) else (((⟨(D.read wslots (6 * s) 6).1, 0⟩ : Rdr).num 6).1, 0)
theorem read_size {D : DiskS} (hg : dk.Good D) (s : ByteArray) (k m : Int) : (D.read s k m).1.size ≤ 16777216 := by
  have := all_le hg s
  unfold DiskS.read
  split; exact Nat.zero_le _
  split; exact Nat.zero_le _
  simp only [ByteArray.size_extract]
  omega
set_option maxRecDepth 100000 in
set_option maxHeartbeats 2000000 in
theorem Head_any {p n : Nat} {D : DiskS} {F : Nat → Prop} (q : Nat) (t s : Int) (w : World) (h : DiskOk w p D F n) (hq : WheelAt w q p t) :
    Calls Try.prog 27 #[ptrTo q, .int .i64 s] w fun e w' => e = .returned (.tuple #[.int .i64 (whd D s).1, .int .i64 (whd D s).2]) ∧ Calm w w' := by
  have hb := box (bars_any q p t s w hq)
  obtain ⟨c0, c1, f0, f1, hlt⟩ := hq.cells
  cases hsb : slotBad s
  · have hs : 0 ≤ s ∧ s < 16 := by unfold slotBad at hsb; simp at hsb; omega
    obtain ⟨hs0, hs1⟩ := hs
    have hr := box (show whd D s = if (D.read wslots (6 * s) 6).2 ≠ 0 then (0, (D.read wslots (6 * s) 6).2) else (((⟨(D.read wslots (6 * s) 6).1, 0⟩ : Rdr).num 6).1, 0) by unfold whd; rw [hsb]; simp)
    rw [hsb] at hb
    have hrd := box (Read_ok wslots (6 * s) 6 w h)
    have hsz := box (read_size h.good wslots (6 * s) 6)
    obtain ⟨⟨x, y⟩, hxy⟩ : ∃ r, D.read wslots (6 * s) 6 = r := ⟨_, rfl⟩
    rw [hxy] at hr hrd hsz
    clear h hq hsb hxy
    rcases err_cases y with rfl | ⟨x1, x2, x3⟩
    · have hr := box (show whd D s = (((⟨x, 0⟩ : Rdr).num 6).1, 0) by rw [hr.out]; simp)
      rw [hr.out]
      go_enter Try.func27, Try.ntmps27
      go_wp2_with fail
      refine hb.out.mono ?_
      rintro e w1 ⟨rfl, rfl⟩
      go_wp2_with fail
      refine hrd.out.mono ?_
      rintro e w1 ⟨rfl, hc1⟩
      have Hc1 := box hc1
      clear hc1
      go_wp2_with fail
      refine (oc.New_any x w1).mono ?_
      rintro e w2 ⟨b, hb2, rfl, hR, hc2⟩
      have HR := box hR
      have Hc2 := box hc2
      have Hb2 := box hb2
      clear hR hc2 hb2
      go_wp2_with fail
      refine (RNum_any b ⟨x, 0⟩ 6 w2 HR.out (by have := hsz.out; simp only at this ⊢; omega)).mono ?_
      rintro e w3 ⟨rfl, _, hk⟩
      have Hk := box hk
      clear hk
      go_wp2_with fail
      go_ret2
      exact ⟨rfl, Below.trans (Hc1.out.trans Hc2.out) (Hk.out.below (Hc1.out.trans Hc2.out).size (fun x e => by have := Hb2.out; have := Hc1.out.size; omega))⟩
    · have hr := box (show whd D s = (0, y) by rw [hr.out]; simp only [ne_eq, x3.out, not_false_eq_true, if_true])
      rw [hr.out]
      go_enter Try.func27, Try.ntmps27
      go_wp2_with fail
      refine hb.out.mono ?_
      rintro e w1 ⟨rfl, rfl⟩
      go_wp2_with fail
      refine hrd.out.mono ?_
      rintro e w1 ⟨rfl, hc1⟩
      have Hc1 := box hc1
      clear hc1
      go_wp2_with fail
      go_ret2
      exact ⟨rfl, Hc1.out⟩
  · have hr := box (show whd D s = (0, 2) by unfold whd; rw [hsb]; rfl)
    rw [hr.out]
    rw [hsb] at hb
    clear h hq hsb
    go_enter Try.func27, Try.ntmps27
    go_wp2_with fail
    refine hb.out.mono ?_
    rintro e w1 ⟨rfl, rfl⟩
    go_wp2_with fail
    go_ret2
    exact ⟨rfl, .refl _⟩

/-- A slot's mark is set. -/
def wset (D : DiskS) (s n : Int) : Int × DiskS := if slotBad s then (2, D) else if fitsN 6 n then D.write wslots (6 * s) ⟨(low 6 n.toNat).toArray⟩ else (1, D)
theorem num6 (n : Int) : numB 6 [n] = if fitsN 6 n then (⟨(low 6 n.toNat).toArray⟩, 0) else (⟨#[]⟩, 2) := by
  unfold numB
  rw [if_neg (by decide)]
  simp [lowN]
set_option maxRecDepth 100000 in
set_option maxHeartbeats 4000000 in
theorem Set_any {p n : Nat} {D : DiskS} {F : Nat → Prop} (q : Nat) (t s m : Int) (w : World) (h : DiskOk w p D F n) (hn : n ≤ 999999) (hq : WheelAt w q p t) (hF : ¬ F q) (hm : -9223372036854775808 ≤ m ∧ m ≤ 9223372036854775807) :
    Calls Try.prog 29 #[ptrTo q, .int .i64 s, .int .i64 m] w (OkDone (wset D s m) p F (n + 1) w) := by
  have hb := box (bars_any q p t s w hq)
  obtain ⟨c0, c1, f0, f1, hlt⟩ := hq.cells
  have H := box h
  cases hsb : slotBad s
  · have hs : 0 ≤ s ∧ s < 16 := by unfold slotBad at hsb; simp at hsb; omega
    obtain ⟨hs0, hs1⟩ := hs
    have hr := box (show wset D s m = if fitsN 6 m then D.write wslots (6 * s) ⟨(low 6 m.toNat).toArray⟩ else (1, D) by unfold wset; rw [hsb]; rfl)
    have hcalm := box ((Calm.refl w).alloc (.cells #[.int .i64 m] 3))
    have hnum := box (Num_any 6 (some ⟨w.heap.size, 0, none⟩) 1 [m] (w.alloc (.cells #[.int .i64 m] 3)) (fun k hk => ⟨w.heap.size, 0, rfl, by simp, by
      have : k = 0 := by simpa using hk
      subst this
      exact cell_of (heap_new w _) 0⟩) (by simp) (fun x hx => by rw [List.mem_singleton] at hx; subst hx; exact hm))
    rw [num6] at hnum
    rw [hsb] at hb
    clear h hq hsb
    cases hf : fitsN 6 m
    · have hr := box (show wset D s m = (1, D) by rw [hr.out, hf]; rfl)
      rw [hf] at hnum
      clear hf
      go_enter Try.func29, Try.ntmps29
      go_wp2_with fail
      refine hb.out.mono ?_
      rintro e w1 ⟨rfl, rfl⟩
      go_wp2_with fail
      refine hnum.out.mono ?_
      rintro e w2 ⟨rfl, hc2⟩
      have Hc2 := box (hcalm.out.trans hc2)
      clear hc2
      go_wp2_with fail
      go_ret
      exact ⟨ret_int (by rw [hr.out]), F, by rw [hr.out]; exact (H.out.calm Hc2.out).mono (by omega), Step.of_calm Hc2.out⟩
    · have hr := box (show wset D s m = D.write wslots (6 * s) ⟨(low 6 m.toNat).toArray⟩ by rw [hr.out, hf]; rfl)
      rw [hf] at hnum
      clear hf
      go_enter Try.func29, Try.ntmps29
      go_wp2_with fail
      refine hb.out.mono ?_
      rintro e w1 ⟨rfl, rfl⟩
      go_wp2_with fail
      refine hnum.out.mono ?_
      rintro e w2 ⟨rfl, hc2⟩
      have e0 := (hc2.cell (p := ⟨q, 0, none⟩) (by simp; omega)).trans ((hcalm.out.cell (p := ⟨q, 0, none⟩) hlt).trans c0)
      have hlt2 := Nat.lt_of_lt_of_le hlt (Nat.le_trans hcalm.out.size hc2.size)
      have Hc2 := box (hcalm.out.trans hc2)
      clear hc2
      go_wp2_with fail
      refine (Write_ok wslots ⟨(low 6 m.toNat).toArray⟩ (6 * s) w2 (H.out.calm Hc2.out) (by omega) (by rw [low_size]; decide)).mono ?_
      rintro e w3 ⟨rfl, F3, h3, hs3⟩
      have H3 := box h3
      have Hs3 := box hs3
      clear h3 hs3
      go_wp2_with fail
      go_ret
      exact ⟨ret_int (by rw [hr.out]), F3, by rw [hr.out]; exact H3.out, Step.calm_left Hc2.out Hs3.out⟩
  · have hr := box (show wset D s m = (2, D) by unfold wset; rw [hsb]; rfl)
    rw [hsb] at hb
    clear h hq hsb
    go_enter Try.func29, Try.ntmps29
    go_wp2_with fail
    refine hb.out.mono ?_
    rintro e w1 ⟨rfl, rfl⟩
    go_wp2_with fail
    go_ret
    exact ⟨ret_int (by rw [hr.out]), F, by rw [hr.out]; exact H.out.mono (by omega), .refl _ _⟩

/-- The hand goes on. -/
def turned (t now : Int) : Int × Bool × Int := if now ≤ t then (0, false, t) else (t + 1, true, t + 1)
theorem handTurn_any (q p : Nat) (t now : Int) (w : World) (h : WheelAt w q p t) (ht : 0 ≤ t ∧ t ≤ 9000000000000000000) :
    Calls Try.prog 30 #[.pointer (some ⟨q, 1, none⟩), .int .i64 now] w fun e w' => e = .returned (.tuple #[.int .i64 (turned t now).1, .bool (turned t now).2.1]) ∧ WheelAt w' q p (turned t now).2.2 ∧ Keeps (· = q) w w' := by
  obtain ⟨c0, c1, f0, f1, hlt⟩ := h.cells
  have H := box h
  clear h
  obtain ⟨ht0, ht1⟩ := ht
  by_cases hn : now ≤ t
  · have hr : turned t now = (0, false, t) := by unfold turned; rw [if_pos hn]
    rw [hr]
    clear hr
    go_enter Try.func30, Try.ntmps30
    go_wp2
    go_ret2
    exact ⟨rfl, H.out, .refl _ _⟩
  · have hr : turned t now = (t + 1, true, t + 1) := by unfold turned; rw [if_neg hn]
    rw [hr]
    clear hr
    go_enter Try.func30, Try.ntmps30
    go_wp2
    go_ret2
    refine ⟨rfl, ?_, (Keeps.refl (fun x => x = q) w).setCell (p := ⟨q, 1, none⟩) (.inl rfl) _⟩
    have := heap_set H.out 1 (.int .i64 (t + 1))
    exact this
theorem Turn_any (q p : Nat) (t now : Int) (w : World) (h : WheelAt w q p t) (ht : 0 ≤ t ∧ t ≤ 9000000000000000000) :
    Calls Try.prog 17 #[ptrTo q, .int .i64 now] w fun e w' => e = .returned (.tuple #[.int .i64 (turned t now).1, .bool (turned t now).2.1]) ∧ WheelAt w' q p (turned t now).2.2 ∧ Keeps (· = q) w w' := by
  have hh := box (handTurn_any q p t now w h ht)
  clear h
  go_enter Try.func17, Try.ntmps17
  go_wp2_with fail
  refine hh.out.mono ?_
  rintro e w1 ⟨rfl, h1, hk⟩
  have H1 := box h1
  have Hk := box hk
  clear h1 hk
  go_wp2_with fail
  go_ret2
  exact ⟨rfl, H1.out, Hk.out⟩
theorem Hand_any (q p : Nat) (t : Int) (w : World) (h : WheelAt w q p t) : Calls Try.prog 20 #[ptrTo q] w fun e w' => e = .returned (.int .i64 t) ∧ w = w' := by
  obtain ⟨c0, c1, f0, f1, hlt⟩ := h.cells
  clear h
  go_enter Try.func20, Try.ntmps20
  go_wp2
  go_ret
  exact ⟨rfl, rfl⟩
end Go.Proofs.Ytccbfekajbnehaa.wh

/- Layer 15: how far the hand has to go; the wheel that isn't there; all slots' marks. -/
namespace Go.Proofs.Ytccbfekajbnehaa.wh
open Go.ChangeShapes Go.WideShapes Go.ChangeAt Go.RowKit
open Go.Proofs.Ytccbfekajbnehaa.dk Go.Proofs.Ytccbfekajbnehaa.oc

theorem HandNil_any (w : World) : Calls Try.prog 20 #[.pointer none] w fun e w' => e = .returned (.int .i64 0) ∧ w = w' := by
  go_enter Try.func20, Try.ntmps20
  go_wp2
  go_ret
  exact ⟨rfl, rfl⟩
theorem TurnNil_any (now : Int) (w : World) : Calls Try.prog 17 #[.pointer none, .int .i64 now] w fun e w' => e = .returned (.tuple #[.int .i64 0, .bool false]) ∧ w = w' := by
  go_enter Try.func17, Try.ntmps17
  go_wp2
  go_ret2
  exact ⟨rfl, rfl⟩
theorem HeadNil_any (s : Int) (w : World) : Calls Try.prog 27 #[.pointer none, .int .i64 s] w fun e w' => e = .returned (.tuple #[.int .i64 0, .int .i64 1]) ∧ w = w' := by
  have hb := box (barsNil_any s w)
  go_enter Try.func27, Try.ntmps27
  go_wp2_with fail
  refine hb.out.mono ?_
  rintro e w1 ⟨rfl, rfl⟩
  go_wp2_with fail
  go_ret2
  exact ⟨rfl, rfl⟩
theorem SetNil_any (s n : Int) (w : World) : Calls Try.prog 29 #[.pointer none, .int .i64 s, .int .i64 n] w fun e w' => e = .returned (.int .i64 1) ∧ w = w' := by
  have hb := box (barsNil_any s w)
  go_enter Try.func29, Try.ntmps29
  go_wp2_with fail
  refine hb.out.mono ?_
  rintro e w1 ⟨rfl, rfl⟩
  go_wp2_with fail
  go_ret
  exact ⟨rfl, rfl⟩
/-- A new wheel on a new disk of 1000 bytes. -/
def wd1 (b : Nat) : DiskS := ⟨-1, false, 1000, [⟨wslots, b, ⟨#[]⟩, laid ⟨#[]⟩ 0 (noughts 96)⟩], [⟨b, 0, noughts 96⟩]⟩
def wd0 (b : Nat) : DiskS := ⟨-1, false, 1000, [⟨wslots, b, ⟨#[]⟩, ⟨#[]⟩⟩], []⟩
theorem wn1 (b : Nat) : wnew (new 1000) b = (0, wd1 b) := by
  have h0 : (new 1000).names whead = [] := by simp [DiskS.names, DiskS.namesL, new]
  have h1 : cleared (new 1000) whead = (0, new 1000) := by unfold cleared; rw [if_pos h0]
  have h2 : (new 1000).create wslots b = (0, wd0 b) := by rfl
  have h3 : (wd0 b).write wslots 0 (noughts 96) = (0, wd1 b) := by rfl
  unfold wnew
  rw [h1, if_neg (fun h => h rfl), h2, if_neg (fun h => h rfl), h3]
theorem New_1000 {p : Nat} {F : Nat → Prop} (t : Int) (w : World) (h : DiskOk w p (new 1000) F 0) (ht : 0 ≤ t ∧ t ≤ 1099511627776) :
    Calls Try.prog 14 #[ptrTo p, .int .i64 t] w fun e w' => ∃ q b F', e = .returned (.tuple #[ptrTo q, .int .i64 0]) ∧ DiskOk w' p (wd1 b) F' 1 ∧ Step F w F' w' ∧ WheelAt w' q p t ∧ w.heap.size ≤ q ∧ ¬ F' q := by
  refine (New_any t w h (by decide) ht (fun f hf => by cases hf) (by decide)).mono ?_
  rintro e w' ⟨b, v, F', hb, rfl, hd, hs, hv⟩
  rw [wn1] at hd hv
  rw [wn1]
  rcases hv with ⟨_, q, rfl, hq, hlt, hF⟩ | ⟨h, _⟩
  · exact ⟨q, b, F', rfl, hd, hs, hq, hlt, hF⟩
  · exact absurd rfl h
theorem turned_goes {t now : Int} (h : t < now) : turned t now = (t + 1, true, t + 1) := by unfold turned; rw [if_neg (by omega)]
theorem turned_stays {t now : Int} (h : now ≤ t) : turned t now = (0, false, t) := by unfold turned; rw [if_pos h]
end Go.Proofs.Ytccbfekajbnehaa.wh

/- Layer 4, plain laws: a disk as bytes by name; calls that succeed. -/
namespace Go.Proofs.Ytccbfekajbnehaa.dk
open Go.ChangeShapes Go.WideShapes Go.ChangeAt Go.RowKit

variable {D : DiskS}
/-- No fuse burns, and it is up. -/
structure Alive (D : DiskS) : Prop where
  left : D.left = -1
  down : D.down = false
theorem Alive.burns (h : Alive D) : D.burns = false := by unfold DiskS.burns; rw [h.left]; rfl
theorem Alive.burn (h : Alive D) : D.burn = D := by unfold DiskS.burn; rw [h.left]; rfl
theorem Alive.doing (h : Alive D) (f : DiskS → DiskS) : D.doing f = (0, f D) := by unfold DiskS.doing; rw [h.burns, h.burn]; rfl
/-- A file's bytes. -/
def DiskS.bytes (D : DiskS) (n : ByteArray) : Option ByteArray := (D.find n).map (·.now)
theorem bytes_some {n : ByteArray} {s : ByteArray} (h : D.bytes n = some s) : ∃ f, D.find n = some f ∧ f.now = s := by
  unfold DiskS.bytes at h
  cases hf : D.find n with
  | none => rw [hf] at h; cases h
  | some f => rw [hf] at h; exact ⟨f, rfl, by simpa using h⟩
theorem bytes_has (n : ByteArray) : D.has n = (D.bytes n).isSome := by unfold DiskS.has DiskS.bytes; cases D.find n <;> rfl
theorem new_alive (c : Int) : Alive (new c) := ⟨rfl, rfl⟩
theorem new_bytes (c : Int) (n : ByteArray) : (new c).bytes n = none := rfl
theorem new_size (c : Int) : (new c).size = 0 := rfl

theorem all_bytes (h : Alive D) {n s : ByteArray} (hb : D.bytes n = some s) : D.all n = (s, 0) := by
  obtain ⟨f, h1, h2⟩ := bytes_some hb
  unfold DiskS.all; rw [h.down, h1]; simp [h2]
theorem read_bytes (h : Alive D) {n s : ByteArray} (hb : D.bytes n = some s) (k m : Nat) (hk : k + m ≤ s.size) : D.read n k m = (s.extract k (k + m), 0) := by
  unfold DiskS.read
  rw [all_bytes h hb]
  simp only [ne_eq, not_true, if_false]
  rw [if_neg (by omega)]
  simp only [Int.toNat_natCast, show ((k : Int) + m).toNat = k + m by omega]

/-- What is as it was but for one file. -/
structure But (D E : DiskS) (n : ByteArray) (s : ByteArray) : Prop where
  alive : Alive E
  cap : E.cap = D.cap
  this : E.bytes n = some s
  others : ∀ m, m ≠ n → E.bytes m = D.bytes m

theorem create_but (h : Alive D) {n : ByteArray} (hb : D.bytes n = none) (b : Nat) : ∃ E, D.create n b = (0, E) ∧ But D E n ⟨#[]⟩ ∧ E.size = D.size := by
  have hh : D.has n = false := by rw [bytes_has, hb]; rfl
  refine ⟨{ D with files := D.files ++ [⟨n, b, ⟨#[]⟩, ⟨#[]⟩⟩] }, by unfold DiskS.create; rw [if_neg (by rw [h.down]; decide), if_neg (by rw [hh]; decide), h.doing], ⟨⟨h.left, h.down⟩, rfl, ?_, fun m hm => ?_⟩, ?_⟩
  · have hf : D.find n = none := by unfold DiskS.has at hh; cases hx : D.find n; rfl; rw [hx] at hh; cases hh
    unfold DiskS.bytes DiskS.find at *
    simp only
    rw [List.find?_append, hf]; simp
  · unfold DiskS.bytes DiskS.find
    simp only
    rw [List.find?_append]
    have : List.find? (fun f : FileS => decide (f.name = m)) [⟨n, b, ⟨#[]⟩, ⟨#[]⟩⟩] = none := by simp [Ne.symm hm]
    rw [this]; simp
  · unfold DiskS.size; rw [total_append]; rfl

theorem find_turn_same (hF : Form D) {n : ByteArray} {f : FileS} (hf : D.find n = some f) (g : FileS → FileS) (hg : ∀ x, (g x).name = x.name) : (D.turn n g).find n = some (g f) := by
  obtain ⟨L1, L2, e1, e2, e3⟩ := turn_split hF hf g
  have hn := (find_some hf).2
  unfold DiskS.find
  rw [e2, List.find?_append, List.find?_cons]
  have : L1.find? (fun f => decide (f.name = n)) = none := by
    rw [List.find?_eq_none]; intro x hx; simpa using (e3 x (List.mem_append_left _ hx)).1
  simp [this, hg, hn]
theorem find_turn_other {a b : ByteArray} (h : a ≠ b) (g : FileS → FileS) (hg : ∀ x, (g x).name = x.name) : (D.turn a g).find b = D.find b := by
  unfold DiskS.find DiskS.turn
  simp only
  generalize D.files = l
  induction l with
  | nil => rfl
  | cons x l ih =>
    simp only [List.map_cons, List.find?_cons]
    by_cases hx : x.name = a
    · have hxb : ¬ x.name = b := fun e => h (hx.symm.trans e)
      simp only [hx, if_true, hg]
      rw [ih]
      simp [h]
    · simp only [if_neg hx]
      rw [ih]
theorem laid_zero (s : ByteArray) (k : Nat) (o : ByteArray) (ho : o.size = 0) : laid s k o = s := by
  unfold laid laidL
  rw [if_pos (List.eq_nil_of_length_eq_zero (by simpa using ho))]
/-- A write that has room. -/
theorem write_but (h : Alive D) (hF : Form D) {n s : ByteArray} (hb : D.bytes n = some s) (k : Nat) (t : ByteArray) (hk : k ≤ s.size) (hroom : ((k + t.size - s.size : Nat) : Int) ≤ D.cap - D.size) :
    ∃ E, D.write n k t = (0, E) ∧ But D E n (laid s k t) ∧ E.size = D.size + (k + t.size - s.size) := by
  obtain ⟨f, h1, h2⟩ := bytes_some hb
  subst h2
  have hw : D.write n k t = D.doing fun D => if t.size = 0 then D else { D.turn n (fun f => { f with now := laid f.now k t }) with waits := D.waits ++ [⟨f.blk, k, t⟩] } := by
    unfold DiskS.write
    rw [h.down, h1]
    simp only [Int.toNat_natCast]
    rw [if_neg (by decide), if_neg (by omega), if_neg (by omega)]
  rw [hw, h.doing]
  by_cases h0 : t.size = 0
  · rw [if_pos h0]
    refine ⟨D, rfl, ⟨h, rfl, by rw [laid_zero _ _ _ h0]; exact hb, fun _ _ => rfl⟩, by omega⟩
  · rw [if_neg h0]
    refine ⟨_, rfl, ⟨⟨h.left, h.down⟩, rfl, ?_, fun m hm => ?_⟩, ?_⟩
    · show ((D.turn n _).find n).map _ = _
      rw [find_turn_same hF h1 (fun f => { f with now := laid f.now k t }) (fun _ => rfl)]; rfl
    · show ((D.turn n _).find m).map _ = _
      rw [find_turn_other (Ne.symm hm) (fun f => { f with now := laid f.now k t }) (fun _ => rfl)]; rfl
    · obtain ⟨L1, L2, e1, e2, _⟩ := turn_split hF h1 (fun f => { f with now := laid f.now k t })
      have hl := laid_size f.now k t
      have hg := laid_le f.now k t h0
      show total (D.turn n _).files = total D.files + _
      rw [e2, e1, total_split, total_split]
      simp only
      omega
theorem bytes_laid (s : ByteArray) (k : Nat) (t : ByteArray) (h : k + t.size ≤ s.size) : (laid s k t).data.toList = s.data.toList.take k ++ t.data.toList ++ s.data.toList.drop (k + t.size) := by
  unfold laid laidL
  by_cases h0 : t.data.toList = []
  · have : t.size = 0 := by have := congrArg List.length h0; simpa using this
    rw [if_pos h0]
    simp [h0, this]
  · rw [if_neg h0]
    unfold pad
    rw [show k + t.data.toList.length - s.data.toList.length = 0 by simp; omega]
    simp
theorem bytes_end (s t : ByteArray) : (laid s s.size t).data.toList = s.data.toList ++ t.data.toList := by
  unfold laid laidL
  by_cases h0 : t.data.toList = []
  · rw [if_pos h0]; simp [h0]
  · rw [if_neg h0]
    unfold pad
    simp
theorem But.other {E : DiskS} {n s : ByteArray} (h : But D E n s) {m : ByteArray} (hm : m ≠ n) {t : ByteArray} (ht : D.bytes m = some t) : E.bytes m = some t := by rw [h.others m hm]; exact ht
end Go.Proofs.Ytccbfekajbnehaa.dk

/- Plain laws: numbers of a fixed width, one behind another. -/
namespace Go.Proofs.Ytccbfekajbnehaa.fl
open Go.Proofs.Ytccbfekajbnehaa.oc Go.Proofs.Ytccbfekajbnehaa.dk

theorem bytes_size (a : List UInt8) : (⟨a.toArray⟩ : ByteArray).size = a.length := by show a.toArray.size = _; simp
theorem getN_append (a b : List UInt8) : getN (a ++ b) = getN a * 256 ^ b.length + getN b := by
  induction b generalizing a with
  | nil => simp [getN]
  | cons c b ih =>
    rw [show a ++ c :: b = (a ++ [c]) ++ b by simp, ih, getN_snoc, show c :: b = [c] ++ b from rfl, ih [c]]
    have : getN [c] = c.toNat := by simp [getN]
    rw [this, List.length_append, List.length_singleton, Nat.add_comm 1, Nat.pow_succ, Nat.add_mul, Nat.mul_comm 256 (getN a), Nat.mul_assoc, Nat.mul_comm 256]
    omega
theorem getN_low : ∀ (n x : Nat), x < 256 ^ n → getN (low n x) = x
  | 0, x, h => by simp at h; subst h; rfl
  | n + 1, x, h => by
    rw [show low (n + 1) x = [UInt8.ofNat (x / 256 ^ n)] ++ low n x from rfl, getN_append, low_length]
    have hd : x / 256 ^ n < 256 := by rw [Nat.div_lt_iff_lt_mul (Nat.pow_pos (by decide))]; rw [Nat.pow_succ] at h; omega
    have h1 : getN [UInt8.ofNat (x / 256 ^ n)] = x / 256 ^ n := by simp [getN]; omega
    have h2 : low n x = low n (x % 256 ^ n) := low_mod n x
    rw [h1, h2, getN_low n _ (Nat.mod_lt _ (Nat.pow_pos (by decide)))]
    have := Nat.div_add_mod x (256 ^ n)
    rw [Nat.mul_comm] at this
    omega
where
  low_mod : ∀ (n x : Nat), low n x = low n (x % 256 ^ n) := fun n x => low_mod' n n (Nat.le_refl n) x
  low_mod' : ∀ (m n : Nat), m ≤ n → ∀ x, low m x = low m (x % 256 ^ n) := fun m => by
    induction m with
    | zero => intro n _ x; rfl
    | succ m ih =>
      intro n hm x
      unfold low
      rw [ih n (by omega) x]
      congr 1
      have : x % 256 ^ n / 256 ^ m % 256 = x / 256 ^ m % 256 := by
        obtain ⟨d, rfl⟩ : ∃ d, n = m + 1 + d := ⟨n - (m + 1), by omega⟩
        have e : 256 ^ (m + 1 + d) = 256 ^ m * (256 * 256 ^ d) := by rw [Nat.pow_add, Nat.pow_succ, Nat.mul_assoc]
        rw [e, Nat.mod_mul_right_div_self, Nat.mod_mul_right_mod]
      apply UInt8.toNat_inj.1
      simp [this]
theorem num_low (n x : Nat) (h1 : 1 ≤ n) (h7 : n ≤ 7) (hx : x < 256 ^ n) (rest : List UInt8) : (⟨⟨(low n x ++ rest).toArray⟩, 0⟩ : Rdr).num n = ((x : Int), ⟨⟨rest.toArray⟩, 0⟩) := by
  have ht : (⟨⟨(low n x ++ rest).toArray⟩, 0⟩ : Rdr).take n = (⟨(low n x).toArray⟩, ⟨⟨rest.toArray⟩, 0⟩) := by
    unfold Rdr.take
    rw [if_neg (fun h => h rfl), if_neg (by omega), if_neg (by rw [bytes_size]; simp [low_length]; omega)]
    simp only [Int.toNat_natCast]
    rw [bytes_size, Go.ByteArray.extract_mk, Go.ByteArray.extract_mk]
    simp [low_length, List.take_append_of_le_length, List.drop_append_of_le_length]
  unfold Rdr.num
  rw [if_neg (fun h => h rfl), if_neg (by omega), ht]
  simp only [getN_low n x hx]
theorem flat_take {α : Type} (f : α → List UInt8) (c : Nat) (hc : ∀ x, (f x).length = c) : ∀ (l : List α) (i : Nat) (h : i < l.length), ((l.flatMap f).drop (c * i)).take c = f l[i]
  | x :: l, 0, h => by simp [List.flatMap_cons, List.take_append_of_le_length, hc x, List.take_of_length_le]
  | x :: l, i + 1, h => by
    have e : c * (i + 1) - c = c * i := by rw [Nat.mul_succ]; omega
    have e2 : c ≤ c * (i + 1) := Nat.le_mul_of_pos_right c (by omega)
    rw [List.flatMap_cons, List.drop_append, hc x, e, List.drop_of_length_le (by rw [hc x]; exact e2), List.nil_append]
    exact flat_take f c hc l i (by simpa using h)
theorem flat_length {α : Type} (f : α → List UInt8) (c : Nat) (hc : ∀ x, (f x).length = c) (l : List α) : (l.flatMap f).length = c * l.length := by
  induction l with
  | nil => simp
  | cons x l ih => rw [List.flatMap_cons, List.length_append, hc, ih, List.length_cons, Nat.mul_succ]; omega
theorem read_flat {α : Type} {D : DiskS} (ha : Alive D) (f : α → List UInt8) (c : Nat) (hc : ∀ x, (f x).length = c) (l : List α) (n : ByteArray) (hb : D.bytes n = some ⟨(l.flatMap f).toArray⟩) (i : Nat) (hi : i < l.length) :
    D.read n ((c * i : Nat) : Int) (c : Nat) = (⟨(f l[i]).toArray⟩, 0) := by
  rw [read_bytes ha hb (c * i) c (by rw [bytes_size, flat_length f c hc]; rw [← Nat.mul_succ]; exact Nat.mul_le_mul_left c hi)]
  congr 1
  rw [Go.ByteArray.extract_mk, Nat.add_sub_cancel_left, flat_take f c hc l i hi]

theorem flat_set {α : Type} (f : α → List UInt8) (c : Nat) (hc : ∀ x, (f x).length = c) (v : α) : ∀ (l : List α) (i : Nat), i < l.length →
    (l.flatMap f).take (c * i) ++ f v ++ (l.flatMap f).drop (c * i + c) = (l.set i v).flatMap f
  | x :: l, 0, h => by
    simp only [List.flatMap_cons, Nat.mul_zero, List.take_zero, List.nil_append, List.set_cons_zero, Nat.zero_add]
    rw [List.drop_append_of_le_length (by rw [hc]; exact Nat.le_refl _), List.drop_of_length_le (by rw [hc]; exact Nat.le_refl _), List.nil_append]
  | x :: l, i + 1, h => by
    have ih := flat_set f c hc v l i (by simpa using h)
    simp only [List.flatMap_cons, List.set_cons_succ]
    rw [← ih]
    have e : c * (i + 1) = (f x).length + c * i := by rw [hc, Nat.mul_succ]; omega
    rw [e, List.take_length_add_append, Nat.add_assoc, List.drop_length_add_append]
    simp [List.append_assoc]
theorem bytes_ext {s t : ByteArray} (h : s.data.toList = t.data.toList) : s = t := by
  cases s with | mk s => cases t with | mk t => exact congrArg ByteArray.mk (Array.toList_inj.mp h)
end Go.Proofs.Ytccbfekajbnehaa.fl

/- Small lemmas for regions that draw their order and only read. -/
namespace Go.Proofs.Ytccbfekajbnehaa
open Go.ChangeShapes Go.WideShapes Go.ChangeAt Go.RowKit
theorem Calm.drewN {a w : World} (h : Calm a w) (n : Nat) : Calm a (w.drewN n) := ⟨h.os, h.tape, h.output, h.size, h.block⟩
end Go.Proofs.Ytccbfekajbnehaa

/- Rows of numbers: read, made by append, compared. -/
namespace Go.Proofs.Ytccbfekajbnehaa
open Go.ChangeShapes Go.WideShapes Go.ChangeAt Go.RowKit
open Go.Proofs.Ytccbfekajbnehaa.dk

/-- A slice value that reads as a list of numbers. -/
def IntsAt (w : World) (v : Value) (l : List Int) : Prop :=
  ∃ a cap, v = .slice a l.length cap ∧ (l.length ≤ maxLen ∧ l.length ≤ cap) ∧ ∀ k (hk : k < l.length), ∃ b off, a = some ⟨b, off, none⟩ ∧ b < w.heap.size ∧ w.cell? ⟨b, off + k, none⟩ = some (.int .i64 l[k])
theorem IntsAt.calm {w w' : World} {v : Value} {l : List Int} (h : IntsAt w v l) (hc : Calm w w') : IntsAt w' v l := by
  obtain ⟨a, cap, h1, h2, h4⟩ := h
  refine ⟨a, cap, h1, h2, fun k hk => ?_⟩
  obtain ⟨b, off, e, hb, hcell⟩ := h4 k hk
  exact ⟨b, off, e, Nat.lt_of_lt_of_le hb hc.size, by rw [hc.cell (p := ⟨b, off + k, none⟩) hb]; exact hcell⟩

/-- All its blocks lie from B on. -/
def From (B : Nat) (v : Value) : Prop := ∀ b, v.ownBlock = some b → B ≤ b
theorem ints_keep {w w' : World} {v : Value} {l : List Int} {B : Nat} {F : Nat → Prop} (h : IntsAt w v l) (hv : From B v) (k : Keeps F w w') (hF : ∀ b, F b → b < B) : IntsAt w' v l := by
  obtain ⟨a, cap, rfl, h2, h4⟩ := h
  refine ⟨a, cap, rfl, h2, fun j hj => ?_⟩
  obtain ⟨b, off, rfl, hb, hcell⟩ := h4 j hj
  have hB := hv b rfl
  refine ⟨b, off, rfl, Nat.lt_of_lt_of_le hb k.size, ?_⟩
  rw [World.cell?_of_block (w := w) (a := ⟨b, off + j, none⟩) (k.block b hb (fun hf => by have := hF b hf; omega))]
  exact hcell
theorem RowsAt.ints {w : World} {v : Value} {l : List Int} (h : RowsAt (IntR .i64) 1 w v l) : IntsAt w v l ∧ ∀ x ∈ l, -9223372036854775808 ≤ x ∧ x ≤ 9223372036854775807 := by
  obtain ⟨a, cap, rfl, h2, h3, h4⟩ := h
  refine ⟨⟨a, cap, rfl, by omega, fun k hk => ?_⟩, fun x hx => ?_⟩
  · obtain ⟨b, off, cs, e, hb, hl, hcell, hr, _⟩ := h4 k hk
    subst hr
    have := hcell 0 (by omega)
    simp only [Nat.mul_one, Nat.add_zero] at this
    exact ⟨b, off, e, hb, this⟩
  · obtain ⟨i, hi, rfl⟩ := List.mem_iff_getElem.1 hx
    obtain ⟨_, _, _, _, _, _, _, _, hr⟩ := h4 i hi
    exact hr
abbrev intRow (l : List Int) : List Value := l.map fun n => .int .i64 n
theorem own_ints {w : World} {base : Nat} {v : Value} {l : List Int} (h : w.ownsRow base 3 1 v l.length (intRow l)) (hl : l.length ≤ 1000000) : IntsAt w v l ∧ From base v := by
  refine ⟨?_, fun b hb => (h.lt b hb).1⟩
  rcases h.2 with ⟨rfl, hn⟩ | ⟨g, cap, cur, rfl, hb, hg, hnc, hcm, hcs, htake⟩
  · have : l = [] := List.eq_nil_of_length_eq_zero hn
    subst this
    exact ⟨none, 0, rfl, ⟨Nat.zero_le _, Nat.zero_le _⟩, fun k hk => absurd hk (Nat.not_lt_zero _)⟩
  · refine ⟨_, cap, rfl, by omega, fun k hk => ⟨g, 0, rfl, heap_lt hg, ?_⟩⟩
    have := h.cells (g := g) rfl k (.int .i64 l[k]) (by simp [intRow, hk])
    rw [add_lit] at this
    rw [Nat.zero_add]
    exact this
theorem own_calm {w w' : World} {base n : Nat} {v : Value} {e : TypeId} {size : Nat} {xs : List Value} (h : w.ownsRow base e size v n xs) (hc : Calm w w') : w'.ownsRow base e size v n xs :=
  row_same h (fun g hg => hc.block g (h.lt g hg).2)
theorem infoInt : (Try.prog.info? 3).map (fun i => (i.zero, i.size, i.bytes)) = some (some (.int .i64 0), 1, 8) := by kernel_rfl
/-- 'append(row, n)' onto a row of one's own. -/
theorem append_int (w : World) (base : Nat) (v : Value) (l : List Int) (x : Int) (h : w.ownsRow base 3 1 v l.length (intRow l)) (hbase : base ≤ w.heap.size) (hl : l.length ≤ 1000000) (ty : TypeId) :
    ∃ v' w', (Builtin.append_ #[41, 41] ty #[v, .slice (some ⟨w.heap.size, 0, none⟩) 1 1]).run Try.prog (w.alloc (.cells #[.int .i64 x] 3)) = .ok v' w' ∧
      w'.ownsRow base 3 1 v' (l ++ [x]).length (intRow (l ++ [x])) ∧ Keeps (base ≤ ·) w w' := by
  obtain ⟨i0, hi, hz0, hz1, hz2⟩ := info_parts infoInt
  have hb := heap_new w (.cells #[.int .i64 x] 3)
  obtain ⟨v', w', h1, h2, h3, _⟩ := run_append_own (P := Try.prog) (w.alloc (.cells #[.int .i64 x] 3)) base 41 ty 3 i0 _ 1 8 Try.underlying41 hi hz0 hz1 hz2 (by kernel_rfl) (by decide) v l.length _ (h.alloc _) ⟨w.heap.size, 0, none⟩ 1 1 [.int .i64 x] rfl (fun j u hj => by
      rw [add_lit, cell_of hb]
      match j, hj with
      | 0, hj => exact hj
      | k + 1, hj => simp at hj) (fun u hu => by
      rcases List.mem_cons.1 hu with rfl | hu
      · rfl
      cases hu) (by simp only [maxLen]; omega) (by omega) (by rw [World.size_alloc]; omega)
  refine ⟨v', w', h1, ?_, ?_⟩
  · simpa [intRow] using h2
  · exact ((Keeps.refl (base ≤ ·) w).alloc _).grown h3 (fun k hk => .inl (h.lt k hk).1)

/-- A pair of numbers. -/
def PairR (k : IntKind) : Reads (Int × Int) := fun _ cs x => cs = [.int k x.1, .int k x.2] ∧ (k.min ≤ x.1 ∧ x.1 ≤ k.max) ∧ k.min ≤ x.2 ∧ x.2 ≤ k.max
theorem PairR.lasts (k : IntKind) : (PairR k).Lasts := fun _ _ _ _ h _ => h
theorem opens_pair {P : Program} {t e : TypeId} {k : IntKind} (ht : P.underlying t = some (.array 2 e)) (he : P.underlying e = some (.int k)) (hc : P.cellsOf e = 1) (hc2 : P.cellsOf t = 2) : Opens P t (PairR k) := fun H enc w base sp held fuel cs x h => by
  obtain ⟨xs, m, _, _, hlen, hxl, hg⟩ := DataW.trod_array ht h
  rw [hc2] at hlen
  rw [hc] at hg
  match cs, hlen with
  | [c0, c1], _ =>
    have g0 := hg 0 (by decide)
    have g1 := hg 1 (by decide)
    rw [List.getElem?_eq_getElem (by omega)] at g0 g1
    obtain ⟨a, ha, ha2⟩ := opens_int he _ _ _ _ _ _ _ _ _ g0
    obtain ⟨b, hb, hb2⟩ := opens_int he _ _ _ _ _ _ _ _ _ g1
    simp at ha hb
    exact ⟨(a, b), by rw [ha, hb], ha2, hb2⟩
theorem RowsAt.pairs {k : IntKind} {w : World} {v : Value} {l : List (Int × Int)} (h : RowsAt (PairR k) 2 w v l) : ∃ a cap, v = .slice a l.length cap ∧ l.length ≤ maxLen ∧ ∀ i (hi : i < l.length), ∃ b off, a = some ⟨b, off, none⟩ ∧ b < w.heap.size ∧
    w.cell? ⟨b, off + i * 2, none⟩ = some (.int k l[i].1) ∧ w.cell? ⟨b, off + i * 2 + 1, none⟩ = some (.int k l[i].2) ∧ (k.min ≤ l[i].1 ∧ l[i].1 ≤ k.max) ∧ k.min ≤ l[i].2 ∧ l[i].2 ≤ k.max := by
  obtain ⟨a, cap, rfl, h2, h3, h4⟩ := h
  refine ⟨a, cap, rfl, by omega, fun i hi => ?_⟩
  obtain ⟨b, off, cs, e, hb, hl, hcell, hr, hm⟩ := h4 i hi
  subst hr
  exact ⟨b, off, e, hb, hcell 0 (by omega), hcell 1 (by omega), hm⟩
theorem RowsAt.nums {k : IntKind} {w : World} {v : Value} {l : List Int} (h : RowsAt (IntR k) 1 w v l) : ∃ a cap, v = .slice a l.length cap ∧ l.length ≤ maxLen ∧ ∀ i (hi : i < l.length), ∃ b off, a = some ⟨b, off, none⟩ ∧ b < w.heap.size ∧
    w.cell? ⟨b, off + i, none⟩ = some (.int k l[i]) ∧ k.min ≤ l[i] ∧ l[i] ≤ k.max := by
  obtain ⟨a, cap, rfl, h2, h3, h4⟩ := h
  refine ⟨a, cap, rfl, by omega, fun i hi => ?_⟩
  obtain ⟨b, off, cs, e, hb, hl, hcell, hr, hm⟩ := h4 i hi
  subst hr
  have := hcell 0 (by omega)
  simp only [Nat.mul_one, Nat.add_zero] at this
  exact ⟨b, off, e, hb, this, hm⟩

end Go.Proofs.Ytccbfekajbnehaa

/- Layer 15: what the disk holds of a wheel; all slots' marks. -/
namespace Go.Proofs.Ytccbfekajbnehaa.wh
open Go.ChangeShapes Go.WideShapes Go.ChangeAt Go.RowKit
open Go.Proofs.Ytccbfekajbnehaa.dk Go.Proofs.Ytccbfekajbnehaa.oc Go.Proofs.Ytccbfekajbnehaa.fl

/-- What the disk holds of a wheel. -/
structure WhD (D : DiskS) (H : List Nat) : Prop where
  alive : Alive D
  slots : D.bytes wslots = some ⟨(H.flatMap (low 6)).toArray⟩
  len : H.length = 16
  small : ∀ x ∈ H, x < 281474976710656
section
variable {D : DiskS} {H : List Nat}
theorem slotOk {k : Nat} (h : k < 16) : slotBad (k : Int) = false := by unfold slotBad; rw [decide_eq_false (by omega), decide_eq_false (by omega)]; rfl
theorem WhD.head (h : WhD D H) (k : Nat) (hk : k < 16) : whd D (k : Int) = (((H.getD k 0 : Nat) : Int), 0) := by
  have hkl : k < H.length := by rw [h.len]; exact hk
  have hr := read_flat h.alive (low 6) 6 (low_length 6) H wslots h.slots k hkl
  simp only [Int.natCast_mul] at hr
  have hr' : D.read wslots (6 * (k : Int)) 6 = (⟨(low 6 H[k]).toArray⟩, 0) := hr
  have hnum : (⟨⟨(low 6 H[k]).toArray⟩, 0⟩ : Rdr).num 6 = ((H[k] : Int), ⟨⟨#[]⟩, 0⟩) := by have := num_low 6 H[k] (by decide) (by decide) (h.small _ (List.getElem_mem _)) []; rw [List.append_nil] at this; exact this
  unfold whd
  rw [slotOk hk, hr']
  simp only [Bool.false_eq_true, if_false, ne_eq, not_true]
  rw [hnum, List.getD_eq_getElem?_getD, List.getElem?_eq_getElem hkl]
  rfl
theorem WhD.set (h : WhD D H) (hF : dk.Form D) (k m : Nat) (hk : k < 16) (hm : m < 281474976710656) (hcap : D.size ≤ D.cap) :
    ∃ E, wset D (k : Int) (m : Int) = (0, E) ∧ WhD E (H.set k m) ∧ But D E wslots ⟨((H.set k m).flatMap (low 6)).toArray⟩ ∧ E.size = D.size := by
  have hsz : (⟨(H.flatMap (low 6)).toArray⟩ : ByteArray).size = 96 := by rw [bytes_size, flat_length (low 6) 6 (low_length 6), h.len]
  have hs2 : (⟨(low 6 m).toArray⟩ : ByteArray).size = 6 := by rw [bytes_size, low_length]
  have hf : fitsN 6 (m : Int) = true := by
    unfold fitsN
    rw [decide_eq_true (Int.natCast_nonneg _), decide_eq_true (show (m : Int) < 256 ^ 6 by show (m : Int) < (281474976710656 : Int); omega)]
    rfl
  obtain ⟨E, h1, h2, h3⟩ := write_but h.alive hF h.slots (6 * k) ⟨(low 6 m).toArray⟩ (by rw [hsz]; omega) (by rw [hsz, hs2]; omega)
  have hl : laid ⟨(H.flatMap (low 6)).toArray⟩ (6 * k) ⟨(low 6 m).toArray⟩ = ⟨((H.set k m).flatMap (low 6)).toArray⟩ := by
    refine bytes_ext ?_
    rw [bytes_laid _ _ _ (by rw [hsz, hs2]; omega), hs2]
    exact flat_set (low 6) 6 (low_length 6) m H k (by rw [h.len]; exact hk)
  rw [hl] at h2
  refine ⟨E, ?_, ⟨h2.alive, h2.this, by rw [List.length_set, h.len], fun x hx => ?_⟩, h2, by rw [h3, hsz, hs2]; omega⟩
  · unfold wset
    rw [slotOk hk, hf, ← h1]
    simp only [Bool.false_eq_true, if_false, if_true, Int.toNat_natCast]
    congr 1
  · rcases List.mem_or_eq_of_mem_set hx with hx | rfl
    · exact h.small x hx
    · exact hm
theorem wset_slot (s m : Int) (h : slotBad s = true) : wset D s m = (2, D) := by unfold wset; rw [h]; rfl
theorem wset_big (s m : Int) (h : slotBad s = false) (hm : fitsN 6 m = false) : wset D s m = (1, D) := by unfold wset; rw [h, hm]; rfl
theorem whd_slot (s : Int) (h : slotBad s = true) : whd D s = (0, 2) := by unfold whd; rw [h]; rfl
set_option maxRecDepth 10000 in
theorem noughts_low : List.replicate 96 (0 : UInt8) = (List.replicate 16 0).flatMap (low 6) := by decide
theorem wd1_bytes : laid ⟨#[]⟩ 0 (noughts 96) = ⟨((List.replicate 16 0).flatMap (low 6)).toArray⟩ := by
  refine bytes_ext ?_
  have := bytes_end ⟨#[]⟩ (noughts 96)
  rw [← noughts_low]
  refine this.trans ?_
  unfold noughts
  simp
theorem wd1_holds (b : Nat) : WhD (wd1 b) (List.replicate 16 0) := ⟨⟨rfl, rfl⟩, by rw [← wd1_bytes]; rfl, rfl, fun x hx => by rw [List.eq_of_mem_replicate hx]; decide⟩

abbrev marks (H : List Nat) : List Int := H.map fun (n : Nat) => (n : Int)
end
end Go.Proofs.Ytccbfekajbnehaa.wh

/- Layer 16: plain laws: marks, chains, rows of what waits. -/
namespace Go.Proofs.Ytccbfekajbnehaa.tl
open Go.Proofs.Ytccbfekajbnehaa.oc Go.Proofs.Ytccbfekajbnehaa.dk Go.Proofs.Ytccbfekajbnehaa.fl Go.Proofs.Ytccbfekajbnehaa.wh

/-- What waits: its second, its place, how often it was put. -/
structure Rc where
  due : Nat
  place : Nat
  puts : Nat
/-- A mark: the one ahead of it too. -/
structure Mk where
  rc : Rc
  ahead : Nat

/-- The chain whose last mark is number n. -/
inductive Ch (E : List Mk) : Nat → List Mk → Prop
  | none : Ch E 0 []
  | more {n : Nat} {l : List Mk} {m : Mk} (h : E[n]? = some m) (ha : m.ahead ≤ n) (hl : Ch E m.ahead l) : Ch E (n + 1) (l ++ [m])
theorem Ch.grow {E : List Mk} {n : Nat} {l : List Mk} (h : Ch E n l) (x : Mk) : Ch (E ++ [x]) n l := by
  induction h with
  | none => exact .none
  | more h ha _ ih =>
    refine .more ?_ ha ih
    obtain ⟨hlt, _⟩ := List.getElem?_eq_some_iff.1 h
    rw [List.getElem?_append_left hlt]
    exact h
theorem Ch.le {E : List Mk} {n : Nat} {l : List Mk} (h : Ch E n l) : n ≤ E.length := by
  cases h with
  | none => exact Nat.zero_le _
  | more h _ _ =>
    obtain ⟨hlt, _⟩ := List.getElem?_eq_some_iff.1 h
    exact hlt
theorem Ch.few {E : List Mk} {n : Nat} {l : List Mk} (h : Ch E n l) : l.length ≤ n := by
  induction h with
  | none => exact Nat.le_refl _
  | more _ ha _ ih => rw [List.length_append, List.length_singleton]; omega
theorem Ch.lay {E : List Mk} {n : Nat} {l : List Mk} (h : Ch E n l) (r : Rc) : Ch (E ++ [⟨r, n⟩]) (E.length + 1) (l ++ [⟨r, n⟩]) := by
  refine .more (m := ⟨r, n⟩) (by simp) h.le ?_
  exact h.grow _
theorem Ch.zero {E : List Mk} {l : List Mk} (h : Ch E 0 l) : l = [] := by cases h; rfl
theorem Ch.succ {E : List Mk} {n : Nat} {l : List Mk} (h : Ch E (n + 1) l) : ∃ (l' : List Mk) (hn : n < E.length), l = l' ++ [E[n]] ∧ E[n].ahead ≤ n ∧ Ch E E[n].ahead l' := by
  cases h with
  | more h ha hl =>
    obtain ⟨hlt, rfl⟩ := List.getElem?_eq_some_iff.1 h
    exact ⟨_, hlt, rfl, ha, hl⟩

/-- All slots' rows. -/
structure Rows (E : List Mk) (H : List Nat) (R : Nat → List Rc) : Prop where
  len : H.length = 16
  row : ∀ k, k < 16 → ∃ l, Ch E (H.getD k 0) l ∧ l.map Mk.rc = R k
def upd (R : Nat → List Rc) (k : Nat) (l : List Rc) : Nat → List Rc := fun j => if j = k then l else R j
theorem getD_set (H : List Nat) (k j x : Nat) (hk : k < H.length) : (H.set k x).getD j 0 = if j = k then x else H.getD j 0 := by
  rw [List.getD_eq_getElem?_getD, List.getD_eq_getElem?_getD, List.getElem?_set]
  by_cases h : j = k
  · subst h; simp [hk]
  · rw [if_neg (fun e => h e.symm), if_neg h]
theorem Rows.emptied {E : List Mk} {H : List Nat} {R : Nat → List Rc} (h : Rows E H R) (k : Nat) (hk : k < 16) : Rows E (H.set k 0) (upd R k []) := by
  refine ⟨by rw [List.length_set, h.len], fun j hj => ?_⟩
  rw [getD_set _ _ _ _ (by rw [h.len]; exact hk)]
  unfold upd
  by_cases e : j = k
  · rw [if_pos e, if_pos e]; exact ⟨[], .none, rfl⟩
  · rw [if_neg e, if_neg e]; exact h.row j hj
/-- A mark more, at the end of its slot's row. -/
theorem Rows.laid {E : List Mk} {H : List Nat} {R : Nat → List Rc} (h : Rows E H R) (r : Rc) :
    Rows (E ++ [⟨r, H.getD (r.due % 16) 0⟩]) (H.set (r.due % 16) (E.length + 1)) (upd R (r.due % 16) (R (r.due % 16) ++ [r])) := by
  have hk : r.due % 16 < 16 := Nat.mod_lt _ (by decide)
  refine ⟨by rw [List.length_set, h.len], fun j hj => ?_⟩
  rw [getD_set _ _ _ _ (by rw [h.len]; exact hk)]
  unfold upd
  by_cases e : j = r.due % 16
  · rw [if_pos e, if_pos e]
    obtain ⟨l, h1, h2⟩ := h.row _ hk
    exact ⟨_, h1.lay r, by rw [List.map_append, h2]; rfl⟩
  · rw [if_neg e, if_neg e]
    obtain ⟨l, h1, h2⟩ := h.row j hj
    exact ⟨l, h1.grow _, h2⟩
theorem Rows.start : Rows [] (List.replicate 16 0) (fun _ => []) := ⟨rfl, fun k hk => ⟨[], by
  have : (List.replicate 16 0).getD k 0 = 0 := by rw [List.getD_eq_getElem?_getD, List.getElem?_replicate, if_pos hk]; rfl
  rw [this]
  exact .none, rfl⟩⟩

/-- One once more. -/
def Rc.again (r : Rc) : Rc := ⟨r.due, r.place, r.puts + 1⟩
def soon (s : Nat) (r : Rc) : Bool := decide (r.due ≤ s)
/-- What is taken of a row at a second: told, and left. -/
def told (s : Nat) (l : List Rc) : List Rc := l.filter (soon s)
def left (s : Nat) (l : List Rc) : List Rc := (l.filter fun r => !soon s r).map Rc.again

/-- What waits, in the order in which it was put, as the rows have it. -/
structure Waits (W : List (Nat × Nat)) (R : Nat → List Rc) (t : Nat) : Prop where
  rows : ∀ k, k < 16 → (R k).map (fun r => (r.due, r.place)) = W.filter fun w => w.1 % 16 == k
  late : ∀ w ∈ W, t < w.1
theorem Waits.mem {W : List (Nat × Nat)} {R : Nat → List Rc} {t k : Nat} (h : Waits W R t) (hk : k < 16) {r : Rc} (hr : r ∈ R k) : r.due % 16 = k ∧ t < r.due ∧ (r.due, r.place) ∈ W := by
  have hm : (r.due, r.place) ∈ (R k).map (fun r => (r.due, r.place)) := List.mem_map.2 ⟨r, hr, rfl⟩
  rw [h.rows k hk, List.mem_filter] at hm
  exact ⟨by simpa using hm.2, h.late _ hm.1, hm.1⟩
theorem Waits.put {W : List (Nat × Nat)} {R : Nat → List Rc} {t : Nat} (h : Waits W R t) (r : Rc) (hr : t < r.due) : Waits (W ++ [(r.due, r.place)]) (upd R (r.due % 16) (R (r.due % 16) ++ [r])) t := by
  refine ⟨fun k hk => ?_, fun w hw => ?_⟩
  · rw [List.filter_append]
    unfold upd
    by_cases e : k = r.due % 16
    · subst e
      rw [if_pos rfl, List.map_append, h.rows _ hk]
      simp
    · rw [if_neg e, h.rows k hk]
      have : (r.due % 16 == k) = false := by rw [beq_eq_false_iff_ne]; exact fun h => e h.symm
      simp [this]
  · rcases List.mem_append.1 hw with hw | hw
    · exact h.late w hw
    · rw [List.mem_singleton] at hw; subst hw; exact hr
theorem map_filter_pair (l : List Rc) (s : Nat) : (l.filter (soon s)).map (fun r => (r.due, r.place)) = (l.map fun r => (r.due, r.place)).filter fun w => decide (w.1 ≤ s) := by
  rw [List.filter_map]; rfl
/-- The next second: what is told, and what stays. -/
theorem Waits.told {W : List (Nat × Nat)} {R : Nat → List Rc} {t : Nat} (h : Waits W R t) :
    (told (t + 1) (R ((t + 1) % 16))).map (fun r => (r.due, r.place)) = W.filter fun w => w.1 == t + 1 := by
  unfold tl.told
  rw [map_filter_pair, h.rows _ (Nat.mod_lt _ (by decide)), List.filter_filter]
  refine List.filter_congr fun w hw => ?_
  have := h.late w hw
  by_cases e : w.1 = t + 1
  · simp [e]
  · have h1 : decide (w.1 ≤ t + 1) = false := decide_eq_false (by omega)
    have h2 : (w.1 == t + 1) = false := beq_eq_false_iff_ne.2 e
    rw [h1, h2]; rfl
theorem Waits.left {W : List (Nat × Nat)} {R : Nat → List Rc} {t : Nat} (h : Waits W R t) :
    Waits (W.filter fun w => !(w.1 == t + 1)) (upd R ((t + 1) % 16) (left (t + 1) (R ((t + 1) % 16)))) (t + 1) := by
  refine ⟨fun k hk => ?_, fun w hw => ?_⟩
  · rw [List.filter_filter]
    unfold upd
    by_cases e : k = (t + 1) % 16
    · subst e
      rw [if_pos rfl]
      unfold tl.left
      rw [List.map_map, show ((fun r : Rc => (r.due, r.place)) ∘ Rc.again) = (fun r => (r.due, r.place)) from rfl]
      have : ((R ((t + 1) % 16)).filter fun r => !soon (t + 1) r).map (fun r => (r.due, r.place)) = ((R ((t + 1) % 16)).map fun r => (r.due, r.place)).filter fun w => !decide (w.1 ≤ t + 1) := by rw [List.filter_map]; rfl
      rw [this, h.rows _ hk, List.filter_filter]
      refine List.filter_congr fun w hw => ?_
      have := h.late w hw
      by_cases e : w.1 = t + 1
      · simp [e]
      · have h1 : decide (w.1 ≤ t + 1) = false := decide_eq_false (by omega)
        have h2 : (w.1 == t + 1) = false := beq_eq_false_iff_ne.2 e
        rw [h1, h2]; simp
    · rw [if_neg e, h.rows k hk]
      refine List.filter_congr fun w hw => ?_
      by_cases e2 : w.1 = t + 1
      · have : (w.1 % 16 == k) = false := by rw [e2, beq_eq_false_iff_ne]; exact fun h => e h.symm
        rw [this]; rfl
      · have h2 : (w.1 == t + 1) = false := beq_eq_false_iff_ne.2 e2
        rw [h2]; simp
  · rw [List.mem_filter] at hw
    have := h.late w hw.1
    have h2 : w.1 ≠ t + 1 := by simpa using hw.2
    omega
/-- How many seconds there are till the hand goes by, of all that wait, together. -/
def phases (W : List (Nat × Nat)) (t : Nat) : Nat := (W.map fun w => (w.1 - 1 - t) % 16).sum
theorem phases_le (W : List (Nat × Nat)) (t : Nat) : phases W t ≤ 15 * W.length := by
  unfold phases
  induction W with
  | nil => simp
  | cons w W ih =>
    have := Nat.mod_lt (w.1 - 1 - t) (show 16 > 0 by decide)
    simp only [List.map_cons, List.sum_cons, List.length_cons]
    omega
def relaid (W : List (Nat × Nat)) (t : Nat) : List (Nat × Nat) := W.filter fun w => w.1 % 16 == (t + 1) % 16 && !(w.1 == t + 1)
/-- What a second lays again. -/
theorem phases_tick (t : Nat) : ∀ (W : List (Nat × Nat)), (∀ w ∈ W, t < w.1) → 16 * (relaid W t).length + phases W t = phases (W.filter fun w => !(w.1 == t + 1)) (t + 1) + (W.filter fun w => !(w.1 == t + 1)).length
  | [], _ => rfl
  | w :: W, h => by
    have ih := phases_tick t W fun x hx => h x (List.mem_cons_of_mem _ hx)
    have hw := h w List.mem_cons_self
    unfold relaid phases at *
    by_cases e : w.1 = t + 1
    · have h1 : (w.1 == t + 1) = true := beq_iff_eq.2 e
      rw [List.filter_cons_of_neg (by simp [h1]), List.filter_cons_of_neg (by simp [h1]), List.map_cons, List.sum_cons]
      have : (w.1 - 1 - t) % 16 = 0 := by rw [show w.1 - 1 - t = 0 by omega]
      omega
    · have h1 : (w.1 == t + 1) = false := beq_eq_false_iff_ne.2 e
      by_cases e2 : w.1 % 16 = (t + 1) % 16
      · have h2 : (w.1 % 16 == (t + 1) % 16) = true := beq_iff_eq.2 e2
        rw [List.filter_cons_of_pos (by simp [h1, e2]), List.filter_cons_of_pos (by simp [h1]), List.map_cons, List.sum_cons, List.map_cons, List.sum_cons, List.length_cons, List.length_cons]
        have : (w.1 - 1 - t) % 16 = 0 := by omega
        have : (w.1 - 1 - (t + 1)) % 16 = 15 := by omega
        omega
      · have h2 : (w.1 % 16 == (t + 1) % 16) = false := beq_eq_false_iff_ne.2 e2
        rw [List.filter_cons_of_neg (by simp [e2]), List.filter_cons_of_pos (by simp [h1]), List.map_cons, List.sum_cons, List.map_cons, List.sum_cons, List.length_cons]
        have : (w.1 - 1 - t) % 16 = (w.1 - 1 - (t + 1)) % 16 + 1 := by omega
        omega
theorem Waits.relaid {W : List (Nat × Nat)} {R : Nat → List Rc} {t : Nat} (h : Waits W R t) : (tl.left (t + 1) (R ((t + 1) % 16))).length = (tl.relaid W t).length := by
  unfold tl.left tl.relaid
  rw [List.length_map]
  have h1 : ((R ((t + 1) % 16)).filter fun r => !soon (t + 1) r).length = (((R ((t + 1) % 16)).map fun r => (r.due, r.place)).filter fun w => !decide (w.1 ≤ t + 1)).length := by rw [List.filter_map, List.length_map]; rfl
  rw [h1, h.rows _ (Nat.mod_lt _ (by decide)), List.filter_filter]
  congr 1
  refine List.filter_congr fun w hw => ?_
  have := h.late w hw
  by_cases e : w.1 = t + 1
  · simp [e]
  · have h1 : decide (w.1 ≤ t + 1) = false := decide_eq_false (by omega)
    have h2 : (w.1 == t + 1) = false := beq_eq_false_iff_ne.2 e
    rw [h1, h2, Bool.and_comm]
/-- How many marks there are. -/
structure Few (W : List (Nat × Nat)) (t many puts secs : Nat) : Prop where
  waits : W.length ≤ puts
  marks : 16 * many ≤ phases W t + 16 * puts + puts * secs
theorem Few.most {W : List (Nat × Nat)} {t many puts secs : Nat} (h : Few W t many puts secs) : 16 * many ≤ 31 * puts + puts * secs := by
  have := h.marks; have := phases_le W t; have := h.waits
  omega
theorem Few.put {W : List (Nat × Nat)} {t many puts secs : Nat} (h : Few W t many puts secs) (x : Nat × Nat) : Few (W ++ [x]) t (many + 1) (puts + 1) secs := by
  have := h.waits
  have := h.marks
  refine ⟨by rw [List.length_append, List.length_singleton]; omega, ?_⟩
  have hp : phases (W ++ [x]) t = phases W t + (x.1 - 1 - t) % 16 := by unfold phases; simp
  have : (puts + 1) * secs = puts * secs + secs := Nat.succ_mul _ _
  rw [hp]
  omega
theorem Few.tick {W : List (Nat × Nat)} {R : Nat → List Rc} {t many puts secs : Nat} (h : Few W t many puts secs) (hw : Waits W R t) :
    Few (W.filter fun w => !(w.1 == t + 1)) (t + 1) (many + (tl.left (t + 1) (R ((t + 1) % 16))).length) puts (secs + 1) := by
  have := h.waits
  have := h.marks
  have hl := List.length_filter_le (fun w : Nat × Nat => !(w.1 == t + 1)) W
  have ht := phases_tick t W hw.late
  have : puts * (secs + 1) = puts * secs + puts := Nat.mul_succ _ _
  rw [hw.relaid]
  refine ⟨by omega, ?_⟩
  rw [Nat.mul_add]
  omega
end Go.Proofs.Ytccbfekajbnehaa.tl

/- Layer 7: entries: put. -/
namespace Go.Proofs.Ytccbfekajbnehaa.en
open Go.ChangeShapes Go.WideShapes Go.ChangeAt Go.RowKit
open Go.Proofs.Ytccbfekajbnehaa.oc

/-- Numbers in so many bytes each. -/
def entL (l : List (Nat × Int)) : List UInt8 := l.flatMap fun x => low x.1 x.2.toNat
def entOk (l : List (Nat × Int)) : Bool := l.all fun x => fitsN x.1 x.2
/-- .. and their bytes; none where one doesn't fit. -/
def putB (l : List (Nat × Int)) : ByteArray := if entOk l then ⟨(entL l).toArray⟩ else ⟨#[]⟩
theorem entL_snoc (l : List (Nat × Int)) (k : Nat) (hk : k < l.length) : entL (l.take (k + 1)) = entL (l.take k) ++ low l[k].1 l[k].2.toNat := by
  unfold entL; rw [List.take_succ_eq_append_getElem hk, List.flatMap_append]; simp
theorem entOk_snoc (l : List (Nat × Int)) (k : Nat) (hk : k < l.length) : entOk (l.take (k + 1)) = (entOk (l.take k) && fitsN l[k].1 l[k].2) := by
  unfold entOk; rw [List.take_succ_eq_append_getElem hk, List.all_append]; simp
theorem entL_length (l : List (Nat × Int)) (h : ∀ x ∈ l, x.1 ≤ 7) : (entL l).length ≤ l.length * 7 := by
  unfold entL
  induction l with
  | nil => simp
  | cons x l ih =>
    rw [List.flatMap_cons, List.length_append, low_length, List.length_cons, Nat.succ_mul]
    have := ih (fun y hy => h y (List.mem_cons_of_mem _ hy))
    have := h x (List.mem_cons_self ..)
    omega
theorem num1 (n : Nat) (x : Int) (h1 : 1 ≤ n) (h7 : n ≤ 7) : numB n [x] = if fitsN n x then (⟨(low n x.toNat).toArray⟩, 0) else (⟨#[]⟩, 2) := by
  unfold numB
  rw [if_neg (by omega)]
  simp [lowN]
theorem bytes_append (a b : List UInt8) : (⟨a.toArray⟩ : ByteArray) ++ ⟨b.toArray⟩ = ⟨(a ++ b).toArray⟩ := by
  apply ba_ext; rw [append_toList]
theorem bytes_size (a : List UInt8) : (⟨a.toArray⟩ : ByteArray).size = a.length := by show a.toArray.size = _; simp

/-- Pairs of numbers lie under a slice's address. -/
def PairsAt (w : World) (a : Option Addr) (l : List (Nat × Int)) : Prop :=
  ∀ k (hk : k < l.length), ∃ b off, a = some ⟨b, off, none⟩ ∧ b < w.heap.size ∧ w.cell? ⟨b, off + k * 2, none⟩ = some (.int .i64 (l[k].1 : Int)) ∧ w.cell? ⟨b, off + k * 2 + 1, none⟩ = some (.int .i64 l[k].2)

set_option maxRecDepth 100000 in
set_option maxHeartbeats 4000000 in
theorem put_any (a : Option Addr) (cap : Nat) (l : List (Nat × Int)) (w : World) (h : PairsAt w a l) (hl : l.length ≤ 1000) (hn : ∀ x ∈ l, 1 ≤ x.1 ∧ x.1 ≤ 7) (hi : ∀ x ∈ l, -9223372036854775808 ≤ x.2 ∧ x.2 ≤ 9223372036854775807) :
    Calls Try.prog 46 #[.slice a l.length cap] w fun e w' => e = .returned (.tuple #[.string (putB l), .bool (entOk l)]) ∧ Calm w w' := by
  have H := box h
  have Hn := box hn
  have Hi := box hi
  clear h hn hi
  go_enter Try.func46, Try.ntmps46
  go_wp2_with fail
  go_loopw [4, 11] (fun o i wr => ∃ k : Nat, k ≤ l.length ∧ i = .int .i64 k ∧ o = .string ⟨(entL (l.take k)).toArray⟩ ∧ entOk (l.take k) = true ∧ Calm w wr) (fun _ i _ => l.length - (intOf i).toNat)
  case atStart => exact ⟨0, Nat.zero_le _, rfl, rfl, rfl, .refl _⟩
  case round =>
    obtain ⟨k, hk, rfl, rfl, hok, hC⟩ := hrel
    have Hok := box hok
    have HC := box hC
    clear hok hC
    by_cases hlt : k < l.length
    · obtain ⟨b, off, rfl, hb, hc0, hc1⟩ := H.out k hlt
      have c0 := (HC.out.cell (p := ⟨b, off + k * 2, none⟩) hb).trans hc0
      have c1 := (HC.out.cell (p := ⟨b, off + k * 2 + 1, none⟩) hb).trans hc1
      have hbr := Nat.lt_of_lt_of_le hb HC.out.size
      have hsn := box (entL_snoc l k hlt)
      have hos := box (entOk_snoc l k hlt)
      have hbad := box (fun (hf : fitsN l[k].1 l[k].2 = false) => (show entOk l = false by
        unfold entOk; rw [List.all_eq_false]; exact ⟨l[k], List.getElem_mem _, by simp [hf]⟩))
      obtain ⟨hn1, hn7⟩ := Hn.out _ (List.getElem_mem hlt)
      have hx := Hi.out _ (List.getElem_mem hlt)
      have hlen := entL_length (l.take k) (fun x hx => (Hn.out x ((List.take_sublist k l).subset hx)).2)
      have hlen2 : (entL (l.take k)).length ≤ 7000 := by have : (l.take k).length ≤ 1000 := by simp; omega
                                                         omega
      obtain ⟨⟨n, x⟩, he⟩ : ∃ y, l[k] = y := ⟨_, rfl⟩
      rw [he] at c0 c1 hsn hos hbad hn1 hn7 hx
      obtain ⟨O, hO⟩ : ∃ O, entL (l.take k) = O := ⟨_, rfl⟩
      rw [hO] at hsn hlen2
      rw [hO]
      simp only at c0 c1 hsn hos hbad hn1 hn7 hx
      have hosz : (⟨O.toArray⟩ : ByteArray).size ≤ 7000 := by rw [bytes_size]; exact hlen2
      have hlsz : (⟨(low n x.toNat).toArray⟩ : ByteArray).size ≤ 7 := by rw [low_size]; exact hn7
      clear hlen hlen2 hO he hc0 hc1
      have hnum := box (Num_any n (some ⟨wr.heap.size + 1, 0, none⟩) 1 [x] ((wr.alloc (.cells #[.int .i64 n, .int .i64 x] 103)).alloc (.cells #[.int .i64 x] 3)) (fun i hi => ⟨wr.heap.size + 1, 0, rfl, by simp, by
        have : i = 0 := by simpa using hi
        subst this
        have := cell_of (heap_new (wr.alloc (.cells #[.int .i64 n, .int .i64 x] 103)) (.cells #[.int .i64 x] 3)) 0
        simp⟩) (by simp) (fun y hy => by rw [List.mem_singleton] at hy; subst hy; exact hx))
      rw [num1 n x hn1 hn7] at hnum
      have hca := box (((Calm.refl wr).alloc (.cells #[.int .i64 n, .int .i64 x] 103)).alloc (.cells #[.int .i64 x] 3))
      cases hf : fitsN n x
      · rw [hf] at hnum
        have hno := box (hbad.out hf)
        clear hf hx
        go_wp2_with fail
        refine hnum.out.mono ?_
        rintro e w2 ⟨rfl, hc2⟩
        have HC2 := box ((HC.out.trans hca.out).trans hc2)
        clear hc2
        go_wp2_with fail
        go_ret2
        exact ⟨ret_tup2 (by unfold putB; rw [hno.out]; rfl) (by rw [hno.out]; rfl), HC2.out⟩
      · rw [hf] at hnum
        have hyes := box hf
        clear hf hx
        go_wp2_with fail
        refine hnum.out.mono ?_
        rintro e w2 ⟨rfl, hc2⟩
        have HC2 := box ((HC.out.trans hca.out).trans hc2)
        clear hc2
        go_wp2_with fail
        go_roundw
        case rel => exact ⟨k + 1, by omega, by go_num, by rw [hsn.out, ← bytes_append], by rw [hos.out, Hok.out, hyes.out]; rfl, HC2.out⟩
        case measure => simp [intOf]; omega
    · obtain rfl : k = l.length := by omega
      have hok := box (show entOk l = true by have := Hok.out; rw [List.take_length] at this; exact this)
      go_wp2_with fail
      go_ret2
      exact ⟨ret_tup2 (by unfold putB; rw [hok.out, List.take_length]; rfl) (by rw [hok.out]; rfl), HC.out⟩
end Go.Proofs.Ytccbfekajbnehaa.en
