/- Layer 1: numbers' bytes. -/
import Derived.Test.YtbmhjojlbmbpkaaRdr
import Derived.Test.YtbmhjojlbmbpkaaBld
namespace Go.Proofs.Ytbmhjojlbmbpkaa.oc
open Go.ChangeShapes Go.WideShapes Go.ChangeAt Go.RowKit

def fitsN (n : Nat) (x : Int) : Bool := decide (0 ≤ x) && decide (x < 256 ^ n)
def lowN (n : Nat) (l : List Int) : List UInt8 := l.flatMap fun x => low n x.toNat
/-- Numbers' bytes, and the error's number. -/
def numB (n : Int) (l : List Int) : ByteArray × Int :=
  if n < 1 ∨ 7 < n then (⟨#[]⟩, 1) else if l.all (fitsN n.toNat) then (⟨(lowN n.toNat l).toArray⟩, 0) else (⟨#[]⟩, 2)
theorem fits_div (m : Nat) (h1 : 1 ≤ m) (h7 : m ≤ 7) (x : Int) : fitsN m x = (decide (0 ≤ x) && !(x / 2 ^ (8 * m) != 0)) := by
  have hc : m = 1 ∨ m = 2 ∨ m = 3 ∨ m = 4 ∨ m = 5 ∨ m = 6 ∨ m = 7 := by omega
  unfold fitsN
  rw [Bool.eq_iff_iff]
  rcases hc with rfl | rfl | rfl | rfl | rfl | rfl | rfl <;> simp <;> omega
theorem low_size (n x : Nat) : (⟨(low n x).toArray⟩ : ByteArray).size = n := by show (low n x).toArray.size = n; simp [low_length]
theorem lowN_length (n : Nat) (l : List Int) : (lowN n l).length = l.length * n := by
  unfold lowN
  induction l with
  | nil => simp
  | cons x l ih => rw [List.flatMap_cons, List.length_append, low_length, ih, List.length_cons, Nat.succ_mul, Nat.add_comm]
theorem lowN_snoc (n : Nat) (l : List Int) (k : Nat) (hk : k < l.length) : lowN n (l.take (k + 1)) = lowN n (l.take k) ++ low n l[k].toNat := by
  unfold lowN; rw [List.take_succ_eq_append_getElem hk, List.flatMap_append]; simp
theorem _root_.Go.Lib.BuilderAt.calm' {T e : TypeId} {B b : Nat} {p : Value} {bs : List Value} {w w' : World} (h : Lib.BuilderAt T e B b p bs w) (hc : Calm w w') : Lib.BuilderAt T e B b p bs w' := by
  obtain ⟨hB, v, hb, hrow, hne⟩ := h
  refine ⟨hB, v, heap_calm hc hb, ?_, hne⟩
  obtain ⟨h1, h2⟩ := hrow
  refine ⟨h1, ?_⟩
  rcases h2 with h2 | ⟨g, cap, cur, e1, r1, r2, r3⟩
  · exact .inl h2
  · exact .inr ⟨g, cap, cur, e1, r1, heap_calm hc r2, r3⟩
theorem _root_.Go.Lib.IsBuilder.calm' {T e : TypeId} {B b : Nat} {bs : List Value} {w w' : World} (h : Lib.IsBuilder T e B b bs w) (hc : Calm w w') : Lib.IsBuilder T e B b bs w' := h.imp (·.calm' hc) (·.calm' hc)
/-- Numbers lie under a slice's address. -/
def IntsAt (w : World) (a : Option Addr) (l : List Int) : Prop := ∀ k (hk : k < l.length), ∃ b off, a = some ⟨b, off, none⟩ ∧ b < w.heap.size ∧ w.cell? ⟨b, off + k, none⟩ = some (.int .i64 l[k])
theorem IntsAt.below {w w' : World} {a : Option Addr} {l : List Int} {B : Nat} (h : IntsAt w a l) (hB : w.heap.size = B) (hc : Below B w w') : IntsAt w' a l := fun k hk => by
  obtain ⟨b, off, e, hb, hcell⟩ := h k hk
  exact ⟨b, off, e, Nat.lt_of_lt_of_le hb (by have := hc.size; omega), by rw [hc.cell (p := ⟨b, off + k, none⟩) (by show b < B; omega)]; exact hcell⟩

set_option maxRecDepth 100000 in
set_option maxHeartbeats 4000000 in
theorem Num_any (n : Int) (a : Option Addr) (cap : Nat) (l : List Int) (w : World) (h : IntsAt w a l) (hl : l.length ≤ 1000000) (hi : ∀ x ∈ l, -9223372036854775808 ≤ x ∧ x ≤ 9223372036854775807) :
    Calls Try.prog 54 #[.int .i64 n, .slice a l.length cap] w fun e w' => e = .returned (.tuple #[.string (numB n l).1, .int .i64 (numB n l).2]) ∧ Calm w w' := by
  by_cases hn : n < 1 ∨ 7 < n
  · have hr := box (show numB n l = (⟨#[]⟩, 1) by unfold numB; rw [if_pos hn])
    rw [hr.out]
    have hn' : n < 1 ∨ (1 ≤ n ∧ 7 < n) := by omega
    clear hn
    rcases hn' with h1 | ⟨h1, h2⟩
    all_goals
      go_enter Try.func54, Try.ntmps54
      go_wp2_with fail
      go_ret2
      exact ⟨rfl, .refl _⟩
  · obtain ⟨m, rfl⟩ : ∃ m : Nat, n = m := ⟨n.toNat, by omega⟩
    have hm1 : 1 ≤ m := by omega
    have hm7 : m ≤ 7 := by omega
    have hr := box (show numB m l = if l.all (fitsN m) then (⟨(lowN m l).toArray⟩, 0) else (⟨#[]⟩, 2) by unfold numB; rw [if_neg hn]; rfl)
    have H := box h
    have Hi := box hi
    clear h hi hn
    go_enter Try.func54, Try.ntmps54
    go_wp2_with fail
    go_loopw [17] (fun i wr => ∃ k : Nat, k ≤ l.length ∧ i = .int .i64 k ∧ (l.take k).all (fitsN m) = true ∧ Lib.IsBuilder BT 5 w.heap.size w.heap.size (Lib.byteCells (lowN m (l.take k))) wr ∧ Calm w wr) (fun i _ => l.length - (intOf i).toNat)
    case atStart =>
      exact ⟨0, Nat.zero_le _, rfl, rfl, .inl ⟨Nat.le_refl _, .slice none 0 0, heap_new w _, World.ownsRow_nil _ _ _ _, by simp [Value.ownBlock]⟩, (Calm.refl w).alloc _⟩
    case round =>
      obtain ⟨k, hk, rfl, hall, hB, hC⟩ := hrel
      have Hall := box hall
      have HB := box hB
      have HC := box hC
      clear hall hB hC
      by_cases hlt : k < l.length
      · obtain ⟨b, off, rfl, hb, hcell⟩ := H.out.below rfl HC.out k hlt
        obtain ⟨x, hx⟩ : ∃ x, l[k] = x := ⟨_, rfl⟩
        obtain ⟨hx1, hx2⟩ := Hi.out l[k] (List.getElem_mem hlt)
        have hsn := box (lowN_snoc m l k hlt)
        have has := box (show (l.take (k + 1)).all (fitsN m) = ((l.take k).all (fitsN m) && fitsN m l[k]) by rw [List.take_succ_eq_append_getElem hlt, List.all_append]; simp)
        rw [hx] at hcell hx1 hx2 hsn has
        have q8 : IntKind.i64.wrap (8 * (m : Int)) = 8 * m := IntWalk.i64_in _ (by omega)
        have hfd := box (fits_div m hm1 hm7 x)
        have hbad := box (fun (hf : fitsN m x = false) => (show numB m l = (⟨#[]⟩, 2) by
          rw [hr.out, if_neg]
          rw [List.all_eq_true]
          intro hh
          have := hh l[k] (List.getElem_mem hlt)
          rw [hx, hf] at this
          cases this))
        have hlen := box (lowN_length m (l.take k))
        clear hx
        go_wp2_with fail
        all_goals first
          | (have hh : x < 0 ∨ (x / 2 ^ (8 * m) != 0) = true := by first | assumption | exact .inl (by assumption)
             have hb2 := hbad.out (by rw [hfd.out]; rcases hh with h | h; rw [decide_eq_false (by omega)]; rfl; rw [h]; simp)
             go_ret2
             exact ⟨ret_tup2 (by rw [hb2]; rfl) (by rw [hb2]; rfl), HC.out⟩)
          | skip
        have hok := box (show fitsN m x = true by
          have hh : 0 ≤ x ∧ (x / 2 ^ (8 * m) != 0) = false := by assumption
          rw [hfd.out, hh.2, decide_eq_true hh.1]; rfl)
        have hx0 : 0 ≤ x := by have := hok.out; unfold fitsN at this; simp at this; exact this.1
        obtain ⟨y, rfl⟩ : ∃ y : Nat, x = y := ⟨x.toNat, by omega⟩
        refine (put_any m y _ (by omega) (by omega)).mono ?_
        rintro e w2 ⟨rfl, hc2⟩
        have HB2 := box (HB.out.calm' hc2)
        have HC2 := box (HC.out.trans hc2)
        clear hc2
        go_wp2_with fail
        refine (WriteString_any w.heap.size w.heap.size _ ⟨(low m y).toArray⟩ _ HB2.out (by rw [Lib.byteCells_length, hlen.out, low_size, List.length_take]; have : min k l.length * m ≤ 1000000 * 7 := Nat.mul_le_mul (by omega) (by omega); omega) (by exact HC2.out.size)).mono ?_
        rintro e w3 ⟨rfl, hb3, hc3⟩
        have HB3 := box hb3
        have HC3 := box (Below.trans HC2.out hc3)
        clear hb3 hc3
        go_wp2_with fail
        go_roundw
        case rel =>
          refine ⟨k + 1, by omega, by go_num, by rw [has.out, Hall.out, hok.out]; rfl, ?_, HC3.out⟩
          rw [hsn.out, Lib.byteCells_append]
          exact .inr HB3.out
        case measure => simp [intOf]; omega
      · obtain rfl : k = l.length := by omega
        have hr := box (show numB m l = (⟨(lowN m l).toArray⟩, 0) by
          have := Hall.out
          rw [List.take_length] at this
          rw [hr.out, if_pos this])
        have HB := box (show Lib.IsBuilder BT 5 w.heap.size w.heap.size (Lib.byteCells (lowN m l)) wr by have := HB.out; rw [List.take_length] at this; exact this)
        go_wp2_with fail
        refine (Try.Builder_String_any w.heap.size w.heap.size _ wr HB.out (by exact HC.out.size)).mono ?_
        rintro e w2 ⟨rfl, hc2⟩
        have HC2 := box (Below.trans HC.out hc2)
        clear hc2
        go_wp2_with fail
        go_ret2
        exact ⟨ret_tup2 (by rw [hr.out]; rfl) (by rw [hr.out]; rfl), HC2.out⟩
end Go.Proofs.Ytbmhjojlbmbpkaa.oc
