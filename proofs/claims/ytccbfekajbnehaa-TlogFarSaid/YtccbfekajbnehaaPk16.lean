/- Layer 7: entries: get. -/
import Derived.Test.YtccbfekajbnehaaRows
import Derived.WalkKit
import Derived.ProofKit
import Derived.OpenShut
import Derived.Handy
import Derived.Deep.LoopGhost
import Derived.Lib.Hide
import Derived.Lib.Strings
import Derived.SizedLaws
import Derived.Maps.Own
import Derived.Maps.OwnOps
import Derived.Maps.OwnSet
import Derived.Maps.RangeWalk
import Derived.Deep.QuietTactic
import Derived.BigQuiet
import Derived.Deep.RegionHeld3
import Derived.Lib.ConvBytes
import Derived.Lib.AppendZeros
import Derived.Lib.AppendZerosOnto
import Derived.Lib.LazyBuf
import Derived.Shelf.Abstract
import Derived.LaidEql
import Derived.Lib.SliceRun
import Derived.StillTailTactics
import Derived.Deep.Slices
import Derived.Shelf.SlIter.Nil
import Derived.Ground.GgzProg
import Derived.Shelf.SortM.Plain
import Derived.Shelf.SortM.SortNone
import Derived.Ground.SlgmProg
import Derived.Shelf.SlicesE.DeleteFunc
import Derived.Ground.SlgfProg
import Derived.Test.YtccbfekajbnehaaProg
import Derived.Shelf.Strings.Builder1
import Derived.Shelf.Small.Bits
import Derived.Shelf.Strings.BuilderF
import Derived.Shelf.Strings.BuilderK
import Derived.Shelf.Strconv.Itoa0
import Derived.Shelf.Sort.Plain
import Derived.Shelf.Strings.Prefix
import Derived.Shelf.Strings.BuilderCap
import Derived.Shelf.Slices.In.SortNone
import Derived.Shelf.SlicesE.IndexFunc
import Derived.Laws.MakeOwn
import Derived.Lib.Builder
import Derived.Lib.AppendStr
import Derived.Test.YtccbfekajbnehaaPk15
namespace Go.Proofs.Ytccbfekajbnehaa.en
open Go.ChangeShapes Go.WideShapes Go.ChangeAt Go.RowKit
open Go.Proofs.Ytccbfekajbnehaa.oc

def Rdr.fin (R : Rdr) : Int := if R.e ≠ 0 ∨ R.s.size = 0 then R.e else 4
theorem Left_any (b : Nat) (R : Rdr) (w : World) (h : RdrAt w b R) : Calls Try.prog 70 #[.pointer (some ⟨b, 0, none⟩)] w fun e w' => e = .returned (.int .i64 R.s.size) ∧ w = w' := by
  obtain ⟨c0, c1, f0, f1, hb⟩ := h.cells
  clear h
  go_enter Try.func70, Try.ntmps70
  go_wp2
  go_ret
  exact ⟨rfl, rfl⟩
theorem End_any (b : Nat) (R : Rdr) (w : World) (h : RdrAt w b R) : Calls Try.prog 64 #[.pointer (some ⟨b, 0, none⟩)] w fun e w' => e = .returned (.int .i64 (Rdr.fin R)) ∧ w = w' := by
  have HE := box (Err_any b R w h)
  have HL := box (Left_any b R w h)
  obtain ⟨s, e⟩ := R
  clear h
  by_cases he : e = 0
  · subst he
    by_cases hs : s.size = 0
    · have hr : Rdr.fin ⟨s, 0⟩ = 0 := by unfold Rdr.fin; rw [if_pos (.inr hs)]
      rw [hr]
      clear hr
      simp only at HL HE
      rw [hs] at HL
      clear hs
      go_enter Try.func64, Try.ntmps64
      go_wp2_with fail
      refine HE.out.mono ?_
      rintro e w' ⟨rfl, rfl⟩
      go_wp2_with fail
      refine HL.out.mono ?_
      rintro e w' ⟨rfl, rfl⟩
      go_wp2_with fail
      go_ret
      exact ⟨rfl, rfl⟩
    · have hr : Rdr.fin ⟨s, 0⟩ = 4 := by unfold Rdr.fin; rw [if_neg]; simp [hs]
      rw [hr]
      have h1 : ((s.size : Int) == 0) = false := by rw [beq_eq_false_iff_ne]; omega
      clear hr hs
      go_enter Try.func64, Try.ntmps64
      go_wp2_with fail
      refine HE.out.mono ?_
      rintro e w' ⟨rfl, rfl⟩
      go_wp2_with fail
      refine HL.out.mono ?_
      rintro e w' ⟨rfl, rfl⟩
      go_wp2_with fail
      go_ret
      exact ⟨rfl, rfl⟩
  · have hr : Rdr.fin ⟨s, e⟩ = e := by unfold Rdr.fin; rw [if_pos (.inl he)]
    rw [hr]
    have h1 : (e == 0) = false := beq_eq_false_iff_ne.2 he
    have h2 : (e != 0) = true := bne_iff_ne.2 he
    clear hr he
    go_enter Try.func64, Try.ntmps64
    go_wp2_with fail
    refine HE.out.mono ?_
    rintro e w' ⟨rfl, rfl⟩
    go_wp2_with fail
    go_ret
    exact ⟨rfl, rfl⟩

/-- Numbers read one behind the other. -/
def rdAll (R : Rdr) : List Nat → List Int × Rdr
  | [] => ([], R)
  | n :: l => ((R.num n).1 :: (rdAll (R.num n).2 l).1, (rdAll (R.num n).2 l).2)
theorem rdAll_append (l l' : List Nat) : ∀ R, rdAll R (l ++ l') = ((rdAll R l).1 ++ (rdAll (rdAll R l).2 l').1, (rdAll (rdAll R l).2 l').2) := by
  induction l with
  | nil => intro R; rfl
  | cons n l ih => intro R; simp only [List.cons_append, rdAll, ih]
theorem rdAll_length (l : List Nat) : ∀ R, (rdAll R l).1.length = l.length := by
  induction l with
  | nil => intro R; rfl
  | cons n l ih => intro R; simp [rdAll, ih]
theorem rdAll_snoc (l : List Nat) (k : Nat) (hk : k < l.length) (R : Rdr) : (rdAll R (l.take (k + 1))).2 = ((rdAll R (l.take k)).2.num l[k]).2 ∧ (rdAll R l).1.getD k 0 = ((rdAll R (l.take k)).2.num l[k]).1 := by
  constructor
  · rw [List.take_succ_eq_append_getElem hk, rdAll_append]; rfl
  · have : l = l.take k ++ (l[k] :: l.drop (k + 1)) := by rw [← List.drop_eq_getElem_cons hk, List.take_append_drop]
    conv => lhs; rw [this]
    rw [rdAll_append]
    have hl := rdAll_length (l.take k) R
    rw [List.getD_eq_getElem?_getD, List.getElem?_append_right (by rw [hl, List.length_take]; omega), hl, List.length_take, Nat.min_eq_left (by omega), Nat.sub_self]
    rfl
theorem take_le (R : Rdr) (n : Int) : (R.take n).2.s.size ≤ R.s.size := by
  unfold Rdr.take
  split; exact Nat.le_refl _
  split; exact Nat.le_refl _
  split; exact Nat.le_refl _
  simp only [ByteArray.size_extract]; omega
theorem num_le (R : Rdr) (n : Int) : (R.num n).2.s.size ≤ R.s.size := by
  unfold Rdr.num
  split; exact Nat.le_refl _
  split; exact Nat.le_refl _
  exact take_le R n
theorem rdAll_le (l : List Nat) : ∀ R, (rdAll R l).2.s.size ≤ R.s.size := by
  induction l with
  | nil => intro R; exact Nat.le_refl _
  | cons n l ih => intro R; exact Nat.le_trans (ih _) (num_le R n)

/-- Widths lie at blocks, their numbers being v. -/
def WidthsAt (w : World) (bs ns : List Nat) (v : Nat → Int) : Prop := ∀ k (h : k < bs.length) (h' : k < ns.length), w.heap[bs[k]]? = some (.cells #[.int .i64 (ns[k] : Int), .int .i64 (v k)] 103 (0, 0))
def GetDone (s : ByteArray) (bs ns : List Nat) (w : World) (e : Ending) (w' : World) : Prop :=
  e = .returned (.bool (decide (Rdr.fin (rdAll ⟨s, 0⟩ ns).2 = 0))) ∧ WidthsAt w' bs ns (fun k => (rdAll ⟨s, 0⟩ ns).1.getD k 0) ∧ Keeps (fun b => b ∈ bs) w w'
set_option maxRecDepth 100000 in
set_option maxHeartbeats 4000000 in
theorem get_any (s : ByteArray) (g cap : Nat) (bs ns : List Nat) (w : World) (hp : ∀ k (h : k < bs.length), w.cell? ⟨g, k, none⟩ = some (.pointer (some ⟨bs[k], 0, none⟩))) (hbn : bs.length = ns.length) (hl : bs.length ≤ 1000)
    (hw : WidthsAt w bs ns (fun _ => 0)) (hnd : bs.Nodup) (hg : g ∉ bs) (hs : s.size ≤ 9223372036854775807) :
    Calls Try.prog 49 #[.string s, .slice (some ⟨g, 0, none⟩) bs.length cap] w (GetDone s bs ns w) := by
  have Hp := box hp
  have Hw := box hw
  have Hnd := box hnd
  have Hg := box hg
  have hlen := box hbn
  clear hp hw hnd hg hbn
  go_enter Try.func49, Try.ntmps49
  go_wp2_with fail
  refine (New_any s w).mono ?_
  rintro e w1 ⟨rb, hrb, rfl, hR, hc1⟩
  have HR := box hR
  have Hc1 := box hc1
  have Hrb := box hrb
  clear hR hc1 hrb
  go_wp2_with fail
  go_loopw [12] (fun i wr => ∃ k : Nat, k ≤ bs.length ∧ i = .int .i64 k ∧ RdrAt wr rb (rdAll ⟨s, 0⟩ (ns.take k)).2 ∧ WidthsAt wr bs ns (fun i => if i < k then (rdAll ⟨s, 0⟩ ns).1.getD i 0 else 0) ∧ Keeps (fun b => b ∈ bs ∨ w.heap.size ≤ b) w wr) (fun i _ => bs.length - (intOf i).toNat)
  case atStart => exact ⟨0, Nat.zero_le _, rfl, HR.out, fun k h h' => heap_calm Hc1.out (by simpa using Hw.out k h h'), .of_calm Hc1.out⟩
  case round =>
    obtain ⟨k, hk, rfl, hR, hW, hK⟩ := hrel
    have HR := box hR
    have HW := box hW
    have HK := box hK
    clear hR hW hK
    by_cases hlt : k < bs.length
    · have hkn : k < ns.length := by rw [← hlen.out]; exact hlt
      have hpk := Hp.out k hlt
      have hgw := World.block_lt_of_cell? w _ hpk
      have p0 : wr.cell? ⟨g, k, none⟩ = some (.pointer (some ⟨bs[k], 0, none⟩)) := by
        have := HK.out.block g hgw (by rintro (h | h); exact Hg.out h; simp at hgw; omega)
        simp only [World.cell?] at hpk ⊢
        rw [this]; exact hpk
      have hwk := HW.out k hlt hkn
      simp only [show ¬ k < k from Nat.lt_irrefl k, if_false] at hwk
      have q0 := cell_of hwk 0
      have q1 := cell_of hwk 1
      have u0 := free_of hwk 0
      have u1 := free_of hwk 1
      have hbl := heap_lt hwk
      obtain ⟨hsn, hval⟩ := rdAll_snoc ns k hkn ⟨s, 0⟩
      have hb0 : bs[k] < w.heap.size := heap_lt (Hw.out k hlt hkn)
      have hne : bs[k] ≠ rb := by have := Hrb.out; omega
      have hle := rdAll_le (ns.take k) ⟨s, 0⟩
      obtain ⟨R, hRe⟩ : ∃ R, (rdAll ⟨s, 0⟩ (ns.take k)).2 = R := ⟨_, rfl⟩
      rw [hRe] at hsn hval hle HR
      obtain ⟨n, hn⟩ : ∃ n, ns[k] = n := ⟨_, rfl⟩
      obtain ⟨c, hc⟩ : ∃ c, bs[k] = c := ⟨_, rfl⟩
      have Hn := box hn
      have Hc := box hc
      rw [hn] at hsn hval
      simp only [hn, hc] at p0 q0 q1 u0 u1 hbl hne hb0
      have hnum := box (RNum_any rb R n wr HR.out (by simp only at hle; omega))
      obtain ⟨⟨x, R2⟩, hx⟩ : ∃ r, R.num n = r := ⟨_, rfl⟩
      rw [hx] at hsn hval hnum
      have Hsn := box hsn
      have Hval := box hval
      clear hRe hn hc hwk hpk hx hsn hval hle
      go_wp2_with fail
      refine hnum.out.mono ?_
      rintro e w2 ⟨rfl, hR2, hk2⟩
      have q1' : w2.cell? ⟨c, 1, none⟩ = some (.int .i64 0) := by
        simp only [World.cell?] at q1 ⊢
        rw [hk2.block c hbl hne]; exact q1
      have u1' : w2.frozen? ⟨c, 1, none⟩ = false := by
        simp only [World.frozen?] at u1 ⊢
        rw [hk2.block c hbl hne]; exact u1
      have hbl2 := Nat.lt_of_lt_of_le hbl hk2.size
      have HR2 := box (show RdrAt (w2.setCell ⟨c, 1, none⟩ (.int .i64 x)) rb R2 from (heap_set_other hne.symm _ _).trans hR2)
      have HW2 := box (show WidthsAt (w2.setCell ⟨c, 1, none⟩ (.int .i64 x)) bs ns (fun i => if i < k + 1 then (rdAll ⟨s, 0⟩ ns).1.getD i 0 else 0) from fun i h h' => by
        have hi := HW.out i h h'
        have hbi : bs[i] < w.heap.size := heap_lt (Hw.out i h h')
        have h2 : w2.heap[bs[i]]? = wr.heap[bs[i]]? := hk2.block _ (heap_lt hi) (by have := Hrb.out; omega)
        by_cases hik : i = k
        · subst hik
          simp only [show ¬ i < i from Nat.lt_irrefl i, if_false] at hi
          have := heap_set (h2.trans hi) 1 (.int .i64 x)
          simp only [show i < i + 1 from Nat.lt_succ_self i, if_true, Hval.out]
          rw [← Hc.out]
          exact this
        · have hcn : bs[i] ≠ c := fun e => hik (nodup_get Hnd.out h hlt (by rw [e, Hc.out]))
          rw [heap_set_other hcn, h2, hi]
          by_cases h3 : i < k
          · simp only [h3, show i < k + 1 by omega, if_true]
          · simp only [h3, show ¬ i < k + 1 by omega, if_false])
      have HK2 := box (show Keeps (fun b => b ∈ bs ∨ w.heap.size ≤ b) w (w2.setCell ⟨c, 1, none⟩ (.int .i64 x)) from
        (HK.out.trans' (hk2.mono (fun b _ e => .inr (by rw [e]; exact Hrb.out)))).setCell (p := ⟨c, 1, none⟩) (.inl (.inl (by rw [← Hc.out]; exact List.getElem_mem _))) _)
      clear hR2 hk2 q1 u1
      go_wp2_with fail
      go_roundw
      case rel => exact ⟨k + 1, by omega, by go_num, by rw [Hsn.out]; exact HR2.out, HW2.out, HK2.out⟩
      case measure => simp [intOf]; omega
    · obtain rfl : k = bs.length := by omega
      have hRe := HR.out
      rw [hlen.out, List.take_length] at hRe
      have HE := box (End_any rb _ wr hRe)
      have HWf := box (show WidthsAt wr bs ns (fun k => (rdAll ⟨s, 0⟩ ns).1.getD k 0) from fun i h h' => by have := HW.out i h h'; simp only [h, if_true] at this; exact this)
      have HKf := box (show Keeps (fun b => b ∈ bs) w wr from ⟨HK.out.os, HK.out.tape, HK.out.output, HK.out.size, fun b hb hn => HK.out.block b hb (by rintro (h | h); exact hn h; omega)⟩)
      obtain ⟨z, hz⟩ : ∃ z, Rdr.fin (rdAll ⟨s, 0⟩ ns).2 = z := ⟨_, rfl⟩
      have Hz := box hz
      rw [hz] at HE
      clear hRe hz
      go_wp2_with fail
      refine HE.out.mono ?_
      rintro e w2 ⟨rfl, rfl⟩
      go_wp2_with fail
      go_ret
      exact ⟨ret_bool (by rw [Hz.out]; by_cases h : z = 0 <;> simp [h]), HWf.out, HKf.out⟩
end Go.Proofs.Ytccbfekajbnehaa.en

/- Layer 7: links, marks, places: put and get. -/
namespace Go.Proofs.Ytccbfekajbnehaa.en
open Go.ChangeShapes Go.WideShapes Go.ChangeAt Go.RowKit
open Go.Proofs.Ytccbfekajbnehaa.oc

/-- Four numbers of bytes, or noughts; are they all? -/
def get4 (s : ByteArray) (ns : List Nat) : (Int × Int × Int × Int) × Bool :=
  if Rdr.fin (rdAll ⟨s, 0⟩ ns).2 = 0 then (((rdAll ⟨s, 0⟩ ns).1.getD 0 0, (rdAll ⟨s, 0⟩ ns).1.getD 1 0, (rdAll ⟨s, 0⟩ ns).1.getD 2 0, (rdAll ⟨s, 0⟩ ns).1.getD 3 0), true) else ((0, 0, 0, 0), false)
theorem pairs4 {w : World} {b : Nat} {n0 n1 n2 n3 : Nat} {z0 z1 z2 z3 x0 x1 x2 x3 : Int} {T : TypeId} (e0 : z0 = n0) (e1 : z1 = n1) (e2 : z2 = n2) (e3 : z3 = n3) (h : w.heap[b]? = some (.cells #[.int .i64 z0, .int .i64 x0, .int .i64 z1, .int .i64 x1, .int .i64 z2, .int .i64 x2, .int .i64 z3, .int .i64 x3] T (0, 0))) :
    PairsAt w (some ⟨b, 0, none⟩) [(n0, x0), (n1, x1), (n2, x2), (n3, x3)] := fun k hk => by
  subst e0 e1 e2 e3
  refine ⟨b, 0, rfl, heap_lt h, ?_⟩
  have hk : k < 4 := hk
  match k, hk with
  | 0, _ => exact ⟨cell_of h 0, cell_of h 1⟩
  | 1, _ => exact ⟨cell_of h 2, cell_of h 3⟩
  | 2, _ => exact ⟨cell_of h 4, cell_of h 5⟩
  | 3, _ => exact ⟨cell_of h 6, cell_of h 7⟩
theorem widths4 {w : World} {b0 b1 b2 b3 n0 n1 n2 n3 : Nat} {v : Nat → Int} (h0 : w.heap[b0]? = some (.cells #[.int .i64 n0, .int .i64 (v 0)] 103 (0, 0))) (h1 : w.heap[b1]? = some (.cells #[.int .i64 n1, .int .i64 (v 1)] 103 (0, 0)))
    (h2 : w.heap[b2]? = some (.cells #[.int .i64 n2, .int .i64 (v 2)] 103 (0, 0))) (h3 : w.heap[b3]? = some (.cells #[.int .i64 n3, .int .i64 (v 3)] 103 (0, 0))) :
    WidthsAt w [b0, b1, b2, b3] [n0, n1, n2, n3] v := fun k hk _ => by
  have hk : k < 4 := hk
  match k, hk with
  | 0, _ => exact h0
  | 1, _ => exact h1
  | 2, _ => exact h2
  | 3, _ => exact h3
theorem ptrs4 {w : World} {g b0 b1 b2 b3 : Nat} {T : TypeId} (h : w.heap[g]? = some (.cells #[.pointer (some ⟨b0, 0, none⟩), .pointer (some ⟨b1, 0, none⟩), .pointer (some ⟨b2, 0, none⟩), .pointer (some ⟨b3, 0, none⟩)] T (0, 0))) :
    ∀ k (hk : k < [b0, b1, b2, b3].length), w.cell? ⟨g, k, none⟩ = some (.pointer (some ⟨[b0, b1, b2, b3][k], 0, none⟩)) := fun k hk => by
  have hk : k < 4 := hk
  match k, hk with
  | 0, _ => exact cell_of h 0
  | 1, _ => exact cell_of h 1
  | 2, _ => exact cell_of h 2
  | 3, _ => exact cell_of h 3
theorem six (w : World) (o0 o1 o2 o3 o4 o5 : Obj) : let W := (((((w.alloc o0).alloc o1).alloc o2).alloc o3).alloc o4).alloc o5
    W.heap[w.heap.size]? = some o0 ∧ W.heap[w.heap.size + 1]? = some o1 ∧ W.heap[w.heap.size + 1 + 1]? = some o2 ∧ W.heap[w.heap.size + 1 + 1 + 1]? = some o3 ∧ W.heap[w.heap.size + 1 + 1 + 1 + 1]? = some o4 ∧ W.heap[w.heap.size + 1 + 1 + 1 + 1 + 1]? = some o5 := by
  have a0 := heap_new w o0
  have a1 := heap_new (w.alloc o0) o1
  have a2 := heap_new ((w.alloc o0).alloc o1) o2
  have a3 := heap_new (((w.alloc o0).alloc o1).alloc o2) o3
  have a4 := heap_new ((((w.alloc o0).alloc o1).alloc o2).alloc o3) o4
  have a5 := heap_new (((((w.alloc o0).alloc o1).alloc o2).alloc o3).alloc o4) o5
  simp only [World.size_alloc] at a1 a2 a3 a4 a5
  exact ⟨heap_old _ _ (heap_old _ _ (heap_old _ _ (heap_old _ _ (heap_old _ _ a0)))), heap_old _ _ (heap_old _ _ (heap_old _ _ (heap_old _ _ a1))), heap_old _ _ (heap_old _ _ (heap_old _ _ a2)), heap_old _ _ (heap_old _ _ a3), heap_old _ _ a4, a5⟩
theorem six_calm (w : World) (o0 o1 o2 o3 o4 o5 : Obj) : Calm w ((((((w.alloc o0).alloc o1).alloc o2).alloc o3).alloc o4).alloc o5) := ((((((Calm.refl w).alloc _).alloc _).alloc _).alloc _).alloc _).alloc _
set_option maxRecDepth 100000 in
set_option maxHeartbeats 2000000 in
theorem Mark_put (x0 x1 x2 x3 : Int) (w : World) (h : ∀ x ∈ [x0, x1, x2, x3], -9223372036854775808 ≤ x ∧ x ≤ 9223372036854775807) :
    Calls Try.prog 28 #[.agg #[.int .i64 x0, .int .i64 x1, .int .i64 x2, .int .i64 x3]] w fun e w' => e = .returned (.tuple #[.string (putB [(6, x0), (6, x1), (6, x2), (2, x3)]), .bool (entOk [(6, x0), (6, x1), (6, x2), (2, x3)])]) ∧ Calm w w' := by
  have hc := ((Calm.refl w).alloc (.cells #[.int .i64 x0, .int .i64 x1, .int .i64 x2, .int .i64 x3] 36)).alloc (.cells #[.int .i64 6, .int .i64 x0, .int .i64 6, .int .i64 x1, .int .i64 6, .int .i64 x2, .int .i64 2, .int .i64 x3] 103)
  have hn := heap_new (w.alloc (.cells #[.int .i64 x0, .int .i64 x1, .int .i64 x2, .int .i64 x3] 36)) (.cells #[.int .i64 6, .int .i64 x0, .int .i64 6, .int .i64 x1, .int .i64 6, .int .i64 x2, .int .i64 2, .int .i64 x3] 103)
  simp only [World.size_alloc] at hn
  have hp := box (put_any (some ⟨w.heap.size + 1, 0, none⟩) 4 [(6, x0), (6, x1), (6, x2), (2, x3)] _ (pairs4 (n0 := 6) (n1 := 6) (n2 := 6) (n3 := 2) rfl rfl rfl rfl hn) (by simp) (by simp) (fun x hx => h x.2 (by simp at hx ⊢; rcases hx with rfl | rfl | rfl | rfl <;> simp)))
  have Hc := box hc
  clear h hc hn
  go_enter Try.func28, Try.ntmps28
  go_wp2_with fail
  refine hp.out.mono ?_
  rintro e w2 ⟨rfl, hc2⟩
  have Hc2 := box (Hc.out.trans hc2)
  clear hc2
  go_wp2_with fail
  go_ret2
  exact ⟨rfl, Hc2.out⟩
set_option maxRecDepth 100000 in
set_option maxHeartbeats 2000000 in
theorem Mark_get (s : ByteArray) (w : World) (hs : s.size ≤ 9223372036854775807) :
    Calls Try.prog 32 #[.string s] w fun e w' => e = .returned (.tuple #[.agg #[.int .i64 (get4 s [6, 6, 6, 2]).1.1, .int .i64 (get4 s [6, 6, 6, 2]).1.2.1, .int .i64 (get4 s [6, 6, 6, 2]).1.2.2.1, .int .i64 (get4 s [6, 6, 6, 2]).1.2.2.2], .bool (get4 s [6, 6, 6, 2]).2]) ∧ Calm w w' := by
  obtain ⟨G4, hG4⟩ : ∃ G, get4 s [6, 6, 6, 2] = G := ⟨_, rfl⟩
  rw [hG4]
  have HG4 := box hG4
  clear hG4
  go_enter Try.func32, Try.ntmps32
  go_wp2_with fail
  obtain ⟨k0, k1, k2, k3, k4, k5⟩ := six w (.cells #[.int .i64 0, .int .i64 0, .int .i64 0, .int .i64 0] 36) (.cells #[.int .i64 6, .int .i64 0] 103) (.cells #[.int .i64 6, .int .i64 0] 103) (.cells #[.int .i64 6, .int .i64 0] 103) (.cells #[.int .i64 2, .int .i64 0] 103)
    (.cells #[.pointer (some ⟨w.heap.size + 1, 0, none⟩), .pointer (some ⟨w.heap.size + 1 + 1, 0, none⟩), .pointer (some ⟨w.heap.size + 1 + 1 + 1, 0, none⟩), .pointer (some ⟨w.heap.size + 1 + 1 + 1 + 1, 0, none⟩)] 108)
  have hcW := six_calm w (.cells #[.int .i64 0, .int .i64 0, .int .i64 0, .int .i64 0] 36) (.cells #[.int .i64 6, .int .i64 0] 103) (.cells #[.int .i64 6, .int .i64 0] 103) (.cells #[.int .i64 6, .int .i64 0] 103) (.cells #[.int .i64 2, .int .i64 0] 103)
    (.cells #[.pointer (some ⟨w.heap.size + 1, 0, none⟩), .pointer (some ⟨w.heap.size + 1 + 1, 0, none⟩), .pointer (some ⟨w.heap.size + 1 + 1 + 1, 0, none⟩), .pointer (some ⟨w.heap.size + 1 + 1 + 1 + 1, 0, none⟩)] 108)
  refine (get_any s (w.heap.size + 1 + 1 + 1 + 1 + 1) 4 [w.heap.size + 1, w.heap.size + 1 + 1, w.heap.size + 1 + 1 + 1, w.heap.size + 1 + 1 + 1 + 1] [6, 6, 6, 2] _ (ptrs4 k5) rfl (by simp) (widths4 k1 k2 k3 k4) (by simp <;> omega) (by simp <;> omega) hs).mono ?_
  rintro e w2 ⟨rfl, hw2, hk2⟩
  have j0 := (hk2.block _ (heap_lt k0) (by simp <;> omega)).trans k0
  have j1 := hw2 0 (by simp) (by simp)
  have j2 := hw2 1 (by simp) (by simp)
  have j3 := hw2 2 (by simp) (by simp)
  have j4 := hw2 3 (by simp) (by simp)
  simp only [List.getElem_cons_zero, List.getElem_cons_succ] at j1 j2 j3 j4
  have r0 := cell_of j0 0
  have r1 := cell_of j0 1
  have r2 := cell_of j0 2
  have r3 := cell_of j0 3
  have s0 := free_of j0 0
  have s1 := free_of j0 1
  have s2 := free_of j0 2
  have s3 := free_of j0 3
  have hl0 := heap_lt j0
  have v1 := cell_of j1 1
  have v2 := cell_of j2 1
  have v3 := cell_of j3 1
  have v4 := cell_of j4 1
  have HC2 := box (show Calm w w2 from Below.trans hcW (hk2.below hcW.size (fun b hb => by simp at hb; omega)))
  obtain ⟨f, hf⟩ : ∃ f, Rdr.fin (rdAll ⟨s, 0⟩ [6, 6, 6, 2]).2 = f := ⟨_, rfl⟩
  obtain ⟨L, hL⟩ : ∃ L, (rdAll ⟨s, 0⟩ [6, 6, 6, 2]).1 = L := ⟨_, rfl⟩
  have hg := box (show get4 s [6, 6, 6, 2] = if f = 0 then ((L.getD 0 0, L.getD 1 0, L.getD 2 0, L.getD 3 0), true) else ((0, 0, 0, 0), false) by unfold get4; rw [hf, hL])
  rw [hf]
  rw [hL] at v1 v2 v3 v4
  obtain ⟨y0, hy0⟩ : ∃ y, L.getD 0 0 = y := ⟨_, rfl⟩
  obtain ⟨y1, hy1⟩ : ∃ y, L.getD 1 0 = y := ⟨_, rfl⟩
  obtain ⟨y2, hy2⟩ : ∃ y, L.getD 2 0 = y := ⟨_, rfl⟩
  obtain ⟨y3, hy3⟩ : ∃ y, L.getD 3 0 = y := ⟨_, rfl⟩
  rw [hy0] at v1 hg
  rw [hy1] at v2 hg
  rw [hy2] at v3 hg
  rw [hy3] at v4 hg
  clear k0 k1 k2 k3 k4 k5 hcW hw2 hk2 j0 j1 j2 j3 j4 hf hL hy0 hy1 hy2 hy3
  by_cases hf0 : f = 0
  · have hg := box (show get4 s [6, 6, 6, 2] = ((y0, y1, y2, y3), true) by rw [hg.out, if_pos hf0])
    have hG : G4 = ((y0, y1, y2, y3), true) := by rw [← HG4.out, hg.out]
    have HG := box hG
    rw [decide_eq_true hf0]
    clear hG
    clear hf0
    go_wp2_with fail
    refine bodyPost_ret (v := .tuple #[.agg #[.int .i64 y0, .int .i64 y1, .int .i64 y2, .int .i64 y3], .bool true]) (by simp [results, Try.results32, go_sem, r0, r1, r2, r3, hl0]) rfl ⟨by rw [HG.out], ?_⟩
    exact (((((Keeps.of_calm (F := fun b => w.heap.size ≤ b) HC2.out).setCell (p := ⟨w.heap.size, 0, none⟩) (.inl (Nat.le_refl _)) _).setCell (p := ⟨w.heap.size, 1, none⟩) (.inl (Nat.le_refl _)) _).setCell (p := ⟨w.heap.size, 2, none⟩) (.inl (Nat.le_refl _)) _).setCell (p := ⟨w.heap.size, 3, none⟩) (.inl (Nat.le_refl _)) _).below (Nat.le_refl _) (fun _ h => h)
  · have hg := box (show get4 s [6, 6, 6, 2] = ((0, 0, 0, 0), false) by rw [hg.out, if_neg hf0])
    have hG : G4 = ((0, 0, 0, 0), false) := by rw [← HG4.out, hg.out]
    have HG := box hG
    rw [decide_eq_false hf0]
    clear hG
    clear hf0
    go_wp2_with fail
    refine bodyPost_ret (v := .tuple #[.agg #[.int .i64 0, .int .i64 0, .int .i64 0, .int .i64 0], .bool false]) (by simp [results, Try.results32, go_sem, r0, r1, r2, r3, hl0]) rfl ⟨by rw [HG.out], ?_⟩
    exact (((((Keeps.of_calm (F := fun b => w.heap.size ≤ b) HC2.out).setCell (p := ⟨w.heap.size, 0, none⟩) (.inl (Nat.le_refl _)) _).setCell (p := ⟨w.heap.size, 1, none⟩) (.inl (Nat.le_refl _)) _).setCell (p := ⟨w.heap.size, 2, none⟩) (.inl (Nat.le_refl _)) _).setCell (p := ⟨w.heap.size, 3, none⟩) (.inl (Nat.le_refl _)) _).below (Nat.le_refl _) (fun _ h => h)

end Go.Proofs.Ytccbfekajbnehaa.en

/- Layers 1 and 7, plain laws: what is put is got again. -/
namespace Go.Proofs.Ytccbfekajbnehaa.en
open Go.Proofs.Ytccbfekajbnehaa.oc

theorem getN_append (a b : List UInt8) : getN (a ++ b) = getN a * 256 ^ b.length + getN b := by
  induction b generalizing a with
  | nil => simp [getN]
  | cons c b ih =>
    rw [show a ++ c :: b = (a ++ [c]) ++ b by simp, ih, getN_snoc, show c :: b = [c] ++ b from rfl, ih [c]]
    have : getN [c] = c.toNat := by simp [getN]
    rw [this, List.length_append, List.length_singleton, Nat.add_comm 1, Nat.pow_succ, Nat.add_mul, Nat.mul_comm 256 (getN a), Nat.mul_assoc, Nat.mul_comm 256]
    omega
theorem getN_low : ∀ (n x : Nat), x < 256 ^ n → getN (low n x) = x
  | 0, x, h => by simp at h; subst h; rfl
  | n + 1, x, h => by
    rw [show low (n + 1) x = [UInt8.ofNat (x / 256 ^ n)] ++ low n x from rfl, getN_append, low_length]
    have hd : x / 256 ^ n < 256 := by rw [Nat.div_lt_iff_lt_mul (Nat.pow_pos (by decide))]; rw [Nat.pow_succ] at h; omega
    have h1 : getN [UInt8.ofNat (x / 256 ^ n)] = x / 256 ^ n := by simp [getN]; omega
    have h2 : low n x = low n (x % 256 ^ n) := low_mod n x
    rw [h1, h2, getN_low n _ (Nat.mod_lt _ (Nat.pow_pos (by decide)))]
    have := Nat.div_add_mod x (256 ^ n)
    rw [Nat.mul_comm] at this
    omega
where
  low_mod : ∀ (n x : Nat), low n x = low n (x % 256 ^ n) := fun n x => low_mod' n n (Nat.le_refl n) x
  low_mod' : ∀ (m n : Nat), m ≤ n → ∀ x, low m x = low m (x % 256 ^ n) := fun m => by
    induction m with
    | zero => intro n _ x; rfl
    | succ m ih =>
      intro n hm x
      unfold low
      rw [ih n (by omega) x]
      congr 1
      have : x % 256 ^ n / 256 ^ m % 256 = x / 256 ^ m % 256 := by
        obtain ⟨d, rfl⟩ : ∃ d, n = m + 1 + d := ⟨n - (m + 1), by omega⟩
        have e : 256 ^ (m + 1 + d) = 256 ^ m * (256 * 256 ^ d) := by rw [Nat.pow_add, Nat.pow_succ, Nat.mul_assoc]
        rw [e, Nat.mod_mul_right_div_self, Nat.mod_mul_right_mod]
      apply UInt8.toNat_inj.1
      simp [this]
theorem num_low (n x : Nat) (h1 : 1 ≤ n) (h7 : n ≤ 7) (hx : x < 256 ^ n) (rest : List UInt8) : (⟨⟨(low n x ++ rest).toArray⟩, 0⟩ : Rdr).num n = ((x : Int), ⟨⟨rest.toArray⟩, 0⟩) := by
  have ht : (⟨⟨(low n x ++ rest).toArray⟩, 0⟩ : Rdr).take n = (⟨(low n x).toArray⟩, ⟨⟨rest.toArray⟩, 0⟩) := by
    unfold Rdr.take
    rw [if_neg (fun h => h rfl), if_neg (by omega), if_neg (by rw [bytes_size]; simp [low_length]; omega)]
    simp only [Int.toNat_natCast]
    rw [bytes_size, Go.ByteArray.extract_mk, Go.ByteArray.extract_mk]
    simp [low_length, List.take_append_of_le_length, List.drop_append_of_le_length]
  unfold Rdr.num
  rw [if_neg (fun h => h rfl), if_neg (by omega), ht]
  simp only [getN_low n x hx]
theorem rdAll_ent : ∀ (l : List (Nat × Int)) (rest : List UInt8), (∀ x ∈ l, 1 ≤ x.1 ∧ x.1 ≤ 7) → entOk l = true → rdAll ⟨⟨(entL l ++ rest).toArray⟩, 0⟩ (l.map (·.1)) = (l.map (·.2), ⟨⟨rest.toArray⟩, 0⟩)
  | [], rest, _, _ => rfl
  | (n, x) :: l, rest, hn, hok => by
    have hok' : fitsN n x = true ∧ entOk l = true := by unfold entOk at hok ⊢; rw [List.all_cons, Bool.and_eq_true] at hok; exact hok
    have hf := hok'.1
    unfold fitsN at hf
    simp only [Bool.and_eq_true, decide_eq_true_eq] at hf
    have h1 := hn (n, x) (List.mem_cons_self ..)
    simp only at h1
    obtain ⟨y, rfl⟩ : ∃ y : Nat, x = y := ⟨x.toNat, by omega⟩
    have hy : y < 256 ^ n := by
      have := hf.2
      have e : (256 : Int) ^ n = ((256 ^ n : Nat) : Int) := by simp
      rw [e] at this
      omega
    have he : entL ((n, (y : Int)) :: l) ++ rest = low n y ++ (entL l ++ rest) := by unfold entL; simp
    simp only [List.map_cons, rdAll]
    rw [he, num_low n y h1.1 h1.2 hy]
    simp only
    rw [rdAll_ent l rest (fun z hz => hn z (List.mem_cons_of_mem _ hz)) hok'.2]
/-- The c bytes of the i-th of many that have c each. -/
theorem flat_take {α : Type} (f : α → List UInt8) (c : Nat) (hc : ∀ x, (f x).length = c) : ∀ (l : List α) (i : Nat) (h : i < l.length), ((l.flatMap f).drop (c * i)).take c = f l[i]
  | x :: l, 0, h => by simp [List.flatMap_cons, List.take_append_of_le_length, hc x, List.take_of_length_le]
  | x :: l, i + 1, h => by
    have e : c * (i + 1) - c = c * i := by rw [Nat.mul_succ]; omega
    have e2 : c ≤ c * (i + 1) := Nat.le_mul_of_pos_right c (by omega)
    rw [List.flatMap_cons, List.drop_append, hc x, e, List.drop_of_length_le (by rw [hc x]; exact e2), List.nil_append]
    exact flat_take f c hc l i (by simpa using h)
end Go.Proofs.Ytccbfekajbnehaa.en

/- Layer 16: what the disk holds of a timer log; a mark more. -/
namespace Go.Proofs.Ytccbfekajbnehaa.tl
open Go.ChangeShapes Go.WideShapes Go.ChangeAt Go.RowKit
open Go.Proofs.Ytccbfekajbnehaa.oc Go.Proofs.Ytccbfekajbnehaa.dk Go.Proofs.Ytccbfekajbnehaa.fl Go.Proofs.Ytccbfekajbnehaa.wh Go.Proofs.Ytccbfekajbnehaa.en

def mkL (m : Mk) : List (Nat × Int) := [(6, (m.rc.due : Int)), (6, (m.rc.place : Int)), (6, (m.ahead : Int)), (2, (m.rc.puts : Int))]
def mkB (m : Mk) : List UInt8 := entL (mkL m)
theorem mkB_length (m : Mk) : (mkB m).length = 20 := by unfold mkB entL mkL; simp [low_length]
def RcOk (r : Rc) : Prop := r.due ≤ 1099511627776 ∧ r.place ≤ 1099511627776 ∧ r.puts < 65536
def MkOk (m : Mk) : Prop := RcOk m.rc ∧ m.ahead < 281474976710656
theorem mk_ok {m : Mk} (h : MkOk m) : entOk (mkL m) = true := by
  obtain ⟨⟨h1, h2, h4⟩, h3⟩ := h
  have a1 : ((m.rc.due : Nat) : Int) < 256 ^ 6 := by show _ < (281474976710656 : Int); omega
  have a2 : ((m.rc.place : Nat) : Int) < 256 ^ 6 := by show _ < (281474976710656 : Int); omega
  have a3 : ((m.ahead : Nat) : Int) < 256 ^ 6 := by show _ < (281474976710656 : Int); omega
  have a4 : ((m.rc.puts : Nat) : Int) < 256 ^ 2 := by show _ < (65536 : Int); omega
  simp only [entOk, mkL, fitsN, List.all_cons, List.all_nil]
  rw [decide_eq_true a1, decide_eq_true a2, decide_eq_true a3, decide_eq_true a4, decide_eq_true (Int.natCast_nonneg _), decide_eq_true (Int.natCast_nonneg _), decide_eq_true (Int.natCast_nonneg _), decide_eq_true (Int.natCast_nonneg _)]
  rfl
theorem get4_mk {m : Mk} (h : MkOk m) : get4 ⟨(mkB m).toArray⟩ [6, 6, 6, 2] = (((m.rc.due : Int), (m.rc.place : Int), (m.ahead : Int), (m.rc.puts : Int)), true) := by
  have := rdAll_ent (mkL m) [] (by intro x hx; simp only [mkL, List.mem_cons, List.not_mem_nil, or_false] at hx; rcases hx with rfl | rfl | rfl | rfl <;> simp) (mk_ok h)
  rw [List.append_nil] at this
  have h2 : rdAll ⟨⟨(mkB m).toArray⟩, 0⟩ [6, 6, 6, 2] = ([(m.rc.due : Int), (m.rc.place : Int), (m.ahead : Int), (m.rc.puts : Int)], ⟨⟨#[]⟩, 0⟩) := this
  unfold get4
  rw [h2]
  rfl
abbrev wmarks : ByteArray := ⟨#[119, 45, 109, 97, 114, 107, 115]⟩
/-- What the disk holds of a timer log. -/
structure LogD (D : DiskS) (E : List Mk) (H : List Nat) : Prop where
  wheel : WhD D H
  marks : D.bytes wmarks = some ⟨(E.flatMap mkB).toArray⟩
  size : D.size = 96 + 20 * E.length
  ok : ∀ m ∈ E, MkOk m
  heads : ∀ x ∈ H, x ≤ E.length
section
variable {D D1 : DiskS} {E : List Mk} {H : List Nat}
/-- A mark is written behind the others. -/
theorem logd_one (h : LogD D E H) (hF : dk.Form D) (m : Mk) (hcap : ((116 + 20 * E.length : Nat) : Int) ≤ D.cap) :
    ∃ D1, D.write wmarks ((E.length : Int) * 20) ⟨(mkB m).toArray⟩ = (0, D1) ∧ But D D1 wmarks ⟨((E ++ [m]).flatMap mkB).toArray⟩ ∧ D1.size = 116 + 20 * E.length := by
  have hsz : (⟨(E.flatMap mkB).toArray⟩ : ByteArray).size = 20 * E.length := by rw [fl.bytes_size, flat_length mkB 20 mkB_length]
  have hs2 : (⟨(mkB m).toArray⟩ : ByteArray).size = 20 := by rw [fl.bytes_size, mkB_length]
  have hz := h.size
  obtain ⟨D1, h1, h2, h3⟩ := write_but h.wheel.alive hF h.marks (20 * E.length) ⟨(mkB m).toArray⟩ (by rw [hsz]; exact Nat.le_refl _) (by rw [hsz, hs2]; omega)
  refine ⟨D1, ?_, ?_, ?_⟩
  · rw [← h1]; congr 1; omega
  · have : laid ⟨(E.flatMap mkB).toArray⟩ (20 * E.length) ⟨(mkB m).toArray⟩ = ⟨((E ++ [m]).flatMap mkB).toArray⟩ := by
      refine bytes_ext ?_
      rw [← hsz, bytes_end]
      simp
    rw [← this]; exact h2
  · rw [h3, hsz, hs2]; omega
/-- The wheel is told of it. -/
theorem logd_two (h : LogD D E H) (m : Mk) (hm : MkOk m) (hcap : ((116 + 20 * E.length : Nat) : Int) ≤ D.cap) (hfew : E.length ≤ 400000) (hF : dk.Form D1) (hB : But D D1 wmarks ⟨((E ++ [m]).flatMap mkB).toArray⟩) (hs : D1.size = 116 + 20 * E.length) (k : Nat) (hk : k < 16) :
    ∃ D2, wset D1 (k : Int) ((E.length + 1 : Nat) : Int) = (0, D2) ∧ LogD D2 (E ++ [m]) (H.set k (E.length + 1)) ∧ D2.cap = D.cap := by
  have hw : WhD D1 H := ⟨hB.alive, (hB.others wslots (by decide)).trans h.wheel.slots, h.wheel.len, h.wheel.small⟩
  obtain ⟨D2, h1, h2, h3, h4⟩ := hw.set hF k (E.length + 1) hk (by omega) (by rw [hB.cap, hs]; exact hcap)
  refine ⟨D2, h1, ⟨h2, (h3.others wmarks (by decide)).trans hB.this, by rw [h4, hs, List.length_append, List.length_singleton]; omega, fun x hx => ?_, fun x hx => ?_⟩, h3.cap.trans hB.cap⟩
  · rcases List.mem_append.mp hx with hx | hx
    · exact h.ok x hx
    · rw [List.mem_singleton.mp hx]; exact hm
  · rw [List.length_append, List.length_singleton]
    rcases List.mem_or_eq_of_mem_set hx with hx | rfl
    · have := h.heads x hx; omega
    · exact Nat.le_refl _
/-- A slot is emptied. -/
theorem logd_empty (h : LogD D E H) (hF : dk.Form D) (hcap : ((96 + 20 * E.length : Nat) : Int) ≤ D.cap) (k : Nat) (hk : k < 16) :
    ∃ D2, wset D (k : Int) ((0 : Nat) : Int) = (0, D2) ∧ LogD D2 E (H.set k 0) ∧ D2.cap = D.cap := by
  obtain ⟨D2, h1, h2, h3, h4⟩ := h.wheel.set hF k 0 hk (by decide) (by rw [h.size]; exact hcap)
  refine ⟨D2, h1, ⟨h2, (h3.others wmarks (by decide)).trans h.marks, h4.trans h.size, h.ok, fun x hx => ?_⟩, h3.cap⟩
  rcases List.mem_or_eq_of_mem_set hx with hx | rfl
  · exact h.heads x hx
  · exact Nat.zero_le _
theorem LogD.head (h : LogD D E H) (k : Nat) : H.getD k 0 ≤ E.length := by
  rw [List.getD_eq_getElem?_getD]
  cases hx : H[k]? with
  | none => exact Nat.zero_le _
  | some x => exact h.heads x (List.mem_of_getElem? hx)
theorem LogD.read (h : LogD D E H) (i : Nat) (hi : i < E.length) : D.read wmarks ((i : Int) * 20) 20 = (⟨(mkB E[i]).toArray⟩, 0) := by
  have hr := read_flat h.wheel.alive mkB 20 mkB_length E wmarks h.marks i hi
  simp only [Int.natCast_mul] at hr
  rw [Int.mul_comm]
  exact hr
end

/-- A timer log lies at l: its wheel at q, how many marks. -/
def LogAt (w : World) (l q : Nat) (many : Nat) : Prop := w.heap[l]? = some (.cells #[ptrTo q, .int .i64 many] 53 (0, 0))
theorem LogAt.calm {w w' : World} {l q m : Nat} (h : LogAt w l q m) (hc : Calm w w') : LogAt w' l q m := heap_calm hc h
theorem LogAt.keep {w w' : World} {l q m : Nat} {F : Nat → Prop} (h : LogAt w l q m) (k : Keeps F w w') (hx : ¬ F l) : LogAt w' l q m := (k.block l (heap_lt h) hx).trans h
theorem LogAt.cells {w : World} {l q m : Nat} (h : LogAt w l q m) : w.cell? ⟨l, 0, none⟩ = some (ptrTo q) ∧ w.cell? ⟨l, 1, none⟩ = some (.int .i64 m) ∧ w.frozen? ⟨l, 0, none⟩ = false ∧ w.frozen? ⟨l, 1, none⟩ = false ∧ l < w.heap.size :=
  ⟨cell_of h 0, cell_of h 1, free_of h 0, free_of h 1, heap_lt h⟩
end Go.Proofs.Ytccbfekajbnehaa.tl

/- Layer 16: a mark is laid. -/
namespace Go.Proofs.Ytccbfekajbnehaa.tl
open Go.ChangeShapes Go.WideShapes Go.ChangeAt Go.RowKit
open Go.Proofs.Ytccbfekajbnehaa.oc Go.Proofs.Ytccbfekajbnehaa.dk Go.Proofs.Ytccbfekajbnehaa.fl Go.Proofs.Ytccbfekajbnehaa.wh Go.Proofs.Ytccbfekajbnehaa.en

theorem slot_any (x : Nat) (w : World) (h : x ≤ 9000000000000000000) :
    Calls Try.prog 26 #[.int .i64 (x : Int)] w fun e w' => e = .returned (.int .i64 ((x % 16 : Nat) : Int)) ∧ w = w' := by
  have hm := box (show ((x % 16 : Nat) : Int) = (x : Int) % 16 by omega)
  rw [hm.out]
  go_enter Try.func26, Try.ntmps26
  go_wp2
  go_ret
  exact ⟨rfl, rfl⟩
section
variable {p q l n : Nat} {D : DiskS} {F : Nat → Prop} {E : List Mk} {H : List Nat}
abbrev rcV (r : Rc) (a : Int) : Value := .agg #[.int .i64 (r.due : Int), .int .i64 (r.place : Int), .int .i64 a, .int .i64 (r.puts : Int)]
/-- A timer log that stands in a world, with its disk. -/
structure Log (w : World) (p q l n : Nat) (D : DiskS) (F : Nat → Prop) (E : List Mk) (H : List Nat) (t : Int) : Prop where
  disk : DiskOk w p D F n
  holds : LogD D E H
  wheel : WheelAt w q p t
  log : LogAt w l q E.length
  qF : ¬ F q
  lF : ¬ F l
  apart : l ≠ q
theorem Log.calm {w w' : World} {t : Int} (h : Log w p q l n D F E H t) (hc : Calm w w') : Log w' p q l n D F E H t := ⟨h.disk.calm hc, h.holds, h.wheel.calm hc, h.log.calm hc, h.qF, h.lF, h.apart⟩
/-- What a mark more gives. -/
def LayDone (p q l n : Nat) (D : DiskS) (F : Nat → Prop) (E : List Mk) (H : List Nat) (t : Int) (r : Rc) (w : World) (e : Ending) (w' : World) : Prop :=
  e = .returned (.int .i64 0) ∧ ∃ D' F', Log w' p q l (n + 2) D' F' (E ++ [⟨r, H.getD (r.due % 16) 0⟩]) (H.set (r.due % 16) (E.length + 1)) t ∧ D'.cap = D.cap ∧ Step (fun b => F b ∨ b = l) w (fun b => F' b ∨ b = l) w'
set_option maxRecDepth 100000 in
set_option maxHeartbeats 4000000 in
theorem lay_any (t a : Int) (r : Rc) (w : World) (h : Log w p q l n D F E H t) (hn : n ≤ 999990) (hfew : E.length ≤ 400000) (hcap : ((116 + 20 * E.length : Nat) : Int) ≤ D.cap) (hr : RcOk r) (ha : 0 ≤ a ∧ a ≤ 9000000000000000000) :
    Calls Try.prog 16 #[ptrTo l, rcV r a] w (LayDone p q l n D F E H t r w) := by
  obtain ⟨hd, hk, hq, hl, hqF, hlF, hlq⟩ := h
  obtain ⟨r1, r2, r4⟩ := box hr |>.out
  have hslot := box (fun W => slot_any r.due W (by omega))
  have hbig : -9223372036854775808 ≤ (E.length : Int) + 1 ∧ (E.length : Int) + 1 ≤ 9223372036854775807 := by omega
  have hk16 : r.due % 16 < 16 := Nat.mod_lt _ (by decide)
  have hg := hk.head (r.due % 16)
  have hw := hk.wheel.head (r.due % 16) hk16
  obtain ⟨k, hkk⟩ : ∃ k, r.due % 16 = k := ⟨_, rfl⟩
  unfold LayDone
  rw [hkk] at hslot hk16 hg hw ⊢
  obtain ⟨g, hgg⟩ : ∃ g, H.getD k 0 = g := ⟨_, rfl⟩
  rw [hgg] at hg hw ⊢
  have hm : MkOk ⟨r, g⟩ := ⟨hr, by show g < _; omega⟩
  have hput := box (fun W => en.Mark_put (r.due : Int) (r.place : Int) (g : Int) (r.puts : Int) W (by intro z hz; simp only [List.mem_cons, List.not_mem_nil, or_false] at hz; rcases hz with rfl | rfl | rfl | rfl <;> omega))
  have he := mk_ok hm
  have hpb : putB (mkL ⟨r, g⟩) = ⟨(mkB ⟨r, g⟩).toArray⟩ := by unfold putB; rw [if_pos he]; rfl
  unfold mkL at he hpb
  simp only at he hpb
  rw [he, hpb] at hput
  have Hd := box hd
  have Hk := box hk
  have Hq := box hq
  have Hl := box hl
  have hhd := box (fun (W : World) (hc : Calm w W) => (show Calls Try.prog 27 #[ptrTo q, .int .i64 (k : Int)] W fun e w' => e = .returned (.tuple #[.int .i64 (g : Int), .int .i64 0]) ∧ Calm W w' by
    have := Head_any q t (k : Int) W (Hd.out.calm hc) (Hq.out.calm hc)
    rw [hw] at this
    exact this))
  have hcalm := box ((Calm.refl w).alloc (.cells #[.int .i64 (r.due : Int), .int .i64 (r.place : Int), .int .i64 a, .int .i64 (r.puts : Int)] 36))
  have hn0 := box (heap_new w (.cells #[.int .i64 (r.due : Int), .int .i64 (r.place : Int), .int .i64 a, .int .i64 (r.puts : Int)] 36))
  obtain ⟨c0, c1, f0, f1, hlt⟩ := hl.cells
  clear hd hk hq hl hw he hpb
  go_enter Try.func16, Try.ntmps16
  go_wp2_with fail
  refine (hslot.out _).mono ?_
  rintro e w1 ⟨rfl, rfl⟩
  go_wp2_with fail
  refine (hhd.out _ hcalm.out).mono ?_
  rintro e w2 ⟨rfl, hc2⟩
  have j0 := (hc2.block _ (heap_lt hn0.out)).trans hn0.out
  have g0 := cell_of j0 0
  have g1 := cell_of j0 1
  have g2 := cell_of j0 2
  have g3 := cell_of j0 3
  have q0 := free_of j0 0
  have q1 := free_of j0 1
  have q2 := free_of j0 2
  have q3 := free_of j0 3
  have jlt := heap_lt j0
  have Hc2 := box (hcalm.out.trans hc2)
  clear hc2 hn0 hcalm
  go_wp2_with fail
  refine (hput.out _).mono ?_
  rintro e w3 ⟨rfl, hc3⟩
  have Hc3 := box (Calm.trans (((Keeps.of_calm (F := fun b => w.heap.size ≤ b) Hc2.out).setCell (p := ⟨w.heap.size, 2, none⟩) (.inl (Nat.le_refl _)) (.int .i64 (g : Int))).below (Nat.le_refl _) (fun _ h => h)) hc3)
  clear hc3 j0 g0 g1 g2 g3 q0 q1 q2 q3 jlt c0 c1 f0 f1 hlt
  have hd3 := box (Hd.out.calm Hc3.out)
  have hl3 := Hl.out.calm Hc3.out
  have hq3 := Hq.out.calm Hc3.out
  obtain ⟨c0, c1, f0, f1, hlt⟩ := hl3.cells
  obtain ⟨d0, d1, e0, e1, elt⟩ := hq3.cells
  go_wp2_with fail
  obtain ⟨D1, k1, k2, k3⟩ := logd_one Hk.out Hd.out.form ⟨r, g⟩ hcap
  have hW := box (fun W (hc : Calm w3 W) => Calls.mono (Write_ok wmarks ⟨(mkB ⟨r, g⟩).toArray⟩ ((E.length : Int) * 20) W (hd3.out.calm hc) (by omega) (by rw [fl.bytes_size, mkB_length]; omega)) fun _ _ hh => OkDone.at hh k1)
  have hwr : IntKind.i64.wrap ((E.length : Int) * 20) = (E.length : Int) * 20 := IntWalk.i64_in _ (by omega)
  have K2 := box k2
  have K3 := box k3
  have Hll := box (heap_lt hl3)
  have Hql := box (heap_lt hq3)
  clear k1 k2 k3
  go_region_held3 (fun w' => w'.cell? ⟨l, 0, none⟩ = some (ptrTo q) ∧ w'.cell? ⟨l, 1, none⟩ = some (.int .i64 E.length) ∧ w'.cell? ⟨q, 0, none⟩ = some (ptrTo p)) (first | go_keep | exact (fun hh hh2 => ⟨hh.cells.1, hh.cells.2.1, hh2.cells.1⟩) (LogAt.keep (LogAt.calm hl3 (by (repeat' (first | (with_reducible exact Calm.refl _) | (with_reducible assumption) | (with_reducible refine Calm.drew ?_) | (with_reducible refine Calm.alloc ?_ _) | (with_reducible refine Calm.trans ?_ (by assumption)))))) hs1.keeps hlF) (WheelAt.keep (WheelAt.calm hq3 (by (repeat' (first | (with_reducible exact Calm.refl _) | (with_reducible assumption) | (with_reducible refine Calm.drew ?_) | (with_reducible refine Calm.alloc ?_ _) | (with_reducible refine Calm.trans ?_ (by assumption)))))) hs1.keeps hqF)) ((go_at_call 23; refine (hW.out _ (by (repeat' (first | (with_reducible exact Calm.refl _) | (with_reducible assumption) | (with_reducible refine Calm.drew ?_) | (with_reducible refine Calm.alloc ?_ _) | (with_reducible refine Calm.trans ?_ (by assumption)))))).mono ?_; rintro e w' ⟨rfl, F1, hd1, hs1⟩))
  have hl4 := LogAt.keep (LogAt.calm hl3 (show Calm w3 _ by (repeat' (first | (with_reducible exact Calm.refl _) | (with_reducible assumption) | (with_reducible refine Calm.drew ?_) | (with_reducible refine Calm.alloc ?_ _) | (with_reducible refine Calm.trans ?_ (by assumption)))))) hs1.keeps hlF
  have hq4 := WheelAt.keep (WheelAt.calm hq3 (show Calm w3 _ by (repeat' (first | (with_reducible exact Calm.refl _) | (with_reducible assumption) | (with_reducible refine Calm.drew ?_) | (with_reducible refine Calm.alloc ?_ _) | (with_reducible refine Calm.trans ?_ (by assumption)))))) hs1.keeps hqF
  have Hs4 := box (Step.trans (Step.of_calm (F := F) (Calm.trans Hc3.out (show Calm w3 w3.drew by (repeat' (first | (with_reducible exact Calm.refl _) | (with_reducible assumption) | (with_reducible refine Calm.drew ?_) | (with_reducible refine Calm.alloc ?_ _) | (with_reducible refine Calm.trans ?_ (by assumption))))))) hs1)
  have Hd4 := box hd1
  have hlF1 : ¬ F1 l := fun hf => (hs1.foot l hf).elim hlF (fun hx => by have := Hll.out; have : w3.drew.heap.size = w3.heap.size := rfl; omega)
  have hqF1 : ¬ F1 q := fun hf => (hs1.foot q hf).elim hqF (fun hx => by have := Hql.out; have : w3.drew.heap.size = w3.heap.size := rfl; omega)
  clear hd1 hs1 hW hd3
  clear c0 c1 f0 f1 hlt d0 d1 e0 e1 elt
  have Hl4 := box hl4
  have Hq4 := box hq4
  obtain ⟨c0, c1, f0, f1, hlt⟩ := hl4.cells
  obtain ⟨d0, d1, e0, e1, elt⟩ := hq4.cells
  have hwq : IntKind.i64.wrap ((E.length : Int) + 1) = (E.length : Int) + 1 := IntWalk.i64_in _ (by omega)
  clear hl3 hq3 hl4 hq4
  go_wp2_with fail
  have hkl : Keeps (fun b => b = l) w' (w'.setCell ⟨l, 1, none⟩ (.int .i64 ((E.length : Int) + 1))) := Keeps.setCell (F := fun b => b = l) (Keeps.refl _ _) (p := ⟨l, 1, none⟩) (.inl rfl) _
  have hd5 := Hd4.out.keep (G := fun b => b = l) hkl (fun b hb e => hlF1 (e ▸ hb))
  have hl5 : LogAt (w'.setCell ⟨l, 1, none⟩ (.int .i64 ((E.length : Int) + 1))) l q (E.length + 1) := heap_set Hl4.out 1 _
  have hq5 := Hq4.out.keep hkl (fun e => hlq e.symm)
  have hs5 : Step (fun b => F b ∨ b = l) w (fun b => F1 b ∨ b = l) (w'.setCell ⟨l, 1, none⟩ (.int .i64 ((E.length : Int) + 1))) := ⟨Keeps.setCell (p := ⟨l, 1, none⟩) (Keeps.mono Hs4.out.keeps (fun b _ hb => .inl hb)) (.inl (.inr rfl)) _, fun b hb => by
    rcases hb with hb | hb
    · rcases Hs4.out.foot b hb with h | h
      · exact .inl (.inl h)
      · exact .inr h
    · exact .inl (.inr hb)⟩
  obtain ⟨w5, hw5⟩ : ∃ W, w'.setCell ⟨l, 1, none⟩ (.int .i64 ((E.length : Int) + 1)) = W := ⟨_, rfl⟩
  rw [hw5] at hd5 hl5 hq5 hs5 ⊢
  clear hw5 hkl c0 c1 f0 f1 hlt d0 d1 e0 e1 elt
  obtain ⟨D2, k1, k2, k3⟩ := logd_two Hk.out ⟨r, g⟩ hm hcap hfew Hd4.out.form K2.out K3.out k hk16
  have hV := box (fun W (hc : Calm w5 W) => Calls.mono (Set_any q t (k : Int) ((E.length : Int) + 1) W (hd5.calm hc) (by omega) (hq5.calm hc) hqF1 hbig) fun _ _ hh => OkDone.at hh k1)
  have Kd := box k2
  have Hs5 := box hs5
  have Hll5 := box (heap_lt hl5)
  have Hql5 := box (heap_lt hq5)
  obtain ⟨c0, c1, f0, f1, hlt⟩ := hl5.cells
  obtain ⟨d0, d1, e0, e1, elt⟩ := hq5.cells
  clear k1 k2 hd5 hs5
  go_region_held3 (fun w' => w'.cell? ⟨l, 0, none⟩ = some (ptrTo q) ∧ w'.cell? ⟨l, 1, none⟩ = some (.int .i64 ((E.length : Int) + 1))) (first | go_keep | exact (fun hh => ⟨hh.cells.1, hh.cells.2.1⟩) (LogAt.keep (LogAt.calm hl5 (by (repeat' (first | (with_reducible exact Calm.refl _) | (with_reducible assumption) | (with_reducible refine Calm.drew ?_) | (with_reducible refine Calm.alloc ?_ _) | (with_reducible refine Calm.trans ?_ (by assumption)))))) hs2.keeps hlF1)) ((go_at_call 29; refine (hV.out _ (by (repeat' (first | (with_reducible exact Calm.refl _) | (with_reducible assumption) | (with_reducible refine Calm.drew ?_) | (with_reducible refine Calm.alloc ?_ _) | (with_reducible refine Calm.trans ?_ (by assumption)))))).mono ?_; rintro e w8 ⟨rfl, F2, hd2, hs2⟩))
  have hl6 := LogAt.keep (LogAt.calm hl5 (show Calm w5 _ by (repeat' (first | (with_reducible exact Calm.refl _) | (with_reducible assumption) | (with_reducible refine Calm.drew ?_) | (with_reducible refine Calm.alloc ?_ _) | (with_reducible refine Calm.trans ?_ (by assumption)))))) hs2.keeps hlF1
  have hq6 := WheelAt.keep (WheelAt.calm hq5 (show Calm w5 _ by (repeat' (first | (with_reducible exact Calm.refl _) | (with_reducible assumption) | (with_reducible refine Calm.drew ?_) | (with_reducible refine Calm.alloc ?_ _) | (with_reducible refine Calm.trans ?_ (by assumption)))))) hs2.keeps hqF1
  have hlF2 : ¬ F2 l := fun hf => (hs2.foot l hf).elim hlF1 (fun hx => by have := Hll5.out; have : w5.drew.heap.size = w5.heap.size := rfl; omega)
  have hqF2 : ¬ F2 q := fun hf => (hs2.foot q hf).elim hqF1 (fun hx => by have := Hql5.out; have : w5.drew.heap.size = w5.heap.size := rfl; omega)
  have Hs6 := box (Step.trans (Step.of_calm (F := F1) (show Calm w5 w5.drew by (repeat' (first | (with_reducible exact Calm.refl _) | (with_reducible assumption) | (with_reducible refine Calm.drew ?_) | (with_reducible refine Calm.alloc ?_ _) | (with_reducible refine Calm.trans ?_ (by assumption)))))) hs2)
  have Hd2 := box hd2
  have Hl6 := box hl6
  have Hq6 := box hq6
  clear hd2 hs2 hl6 hq6 hl5 hq5 hV
  go_wp2_with fail
  go_ret
  refine ⟨rfl, D2, F2, ⟨Hd2.out, Kd.out, Hq6.out, by rw [List.length_append, List.length_singleton]; exact Hl6.out, hqF2, hlF2, hlq⟩, k3, ?_⟩
  exact Step.trans Hs5.out ⟨Keeps.mono Hs6.out.keeps (fun b _ hb => .inl hb), fun b hb => by
    rcases hb with hb | hb
    · rcases Hs6.out.foot b hb with h | h
      · exact .inl (.inl h)
      · exact .inr h
    · exact .inl (.inr hb)⟩
end
end Go.Proofs.Ytccbfekajbnehaa.tl
