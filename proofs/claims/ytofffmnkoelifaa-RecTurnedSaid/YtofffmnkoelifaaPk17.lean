/- Layer 6: the record of bytes. -/
import Derived.Test.YtofffmnkoelifaaRows
import Derived.WalkKit
import Derived.ProofKit
import Derived.OpenShut
import Derived.Handy
import Derived.Deep.LoopGhost
import Derived.Lib.Hide
import Derived.Lib.Strings
import Derived.SizedLaws
import Derived.Deep.Slices
import Derived.Shelf.SlIter.Nil
import Derived.Ground.GgzProg
import Derived.Shelf.SortM.Plain
import Derived.Shelf.SortM.SortNone
import Derived.Ground.SlgmProg
import Derived.Test.YtofffmnkoelifaaProg
import Derived.Shelf.Strings.Builder1
import Derived.Shelf.Strings.Builder2
import Derived.Shelf.Small.Bits
import Derived.Shelf.Small.Wraps
import Derived.Shelf.Strings.BuilderF
import Derived.Shelf.Strings.BuilderK
import Derived.Shelf.Strings.Builder2Cap
import Derived.Shelf.Strconv.Itoa0
import Derived.Shelf.Sort.Plain
import Derived.Shelf.GgClosure.StringsIndexFunc
import Derived.Ground.GgwProg
import Derived.Shelf.GgClosure.StringsIndexFuncTop
import Derived.Shelf.GgClosure.StringsRunes
import Derived.Shelf.Strings.Prefix
import Derived.Shelf.Bits.Mul64
import Derived.Shelf.Strings.Repeat
import Derived.Shelf.Strings.BuilderCap
import Derived.Shelf.Slices.Equal
import Derived.Ground.Names2Prog
import Derived.Shelf.Slices.Clone
import Derived.Shelf.Slices.CompactS
import Derived.Shelf.Slices.SearchI
import Derived.Shelf.Slices.Cells
import Derived.Shelf.Slices.In.SortNone
import Derived.Shelf.Slices.Empties2
import Derived.Ground.SlgnProg
import Derived.Shelf.SlicesE.Equal
import Derived.Shelf.SlicesE.Compact
import Derived.Ground.SlgfProg
import Derived.Shelf.SlicesE.IndexFunc
import Derived.Shelf.SlicesE.DeleteFunc
import Derived.RangeFuncBox
import Derived.RangeFuncLeaves
import Derived.Shelf.Abstract
import Derived.OwnWalkIn
import Derived.TacticsInMore
import Derived.LoopNIn
import Derived.LoopIn
import Derived.Maps.AppendAt
import Derived.Lib.SlicesCompact
import Derived.Deep.QuietTactic
import Derived.BigQuiet
import Derived.Laws.ResultCell
import Derived.Laws.Rows
import Derived.Lib.ConvBytes
import Derived.Lib.AppendZeros
import Derived.Lib.AppendZerosOnto
import Derived.Lib.LazyBuf
import Derived.Laws.MakeOwn
import Derived.Lib.Builder
import Derived.Lib.AppendStr
import Derived.Deep.RegionHeld3
import Derived.Laws.BitsLemmas
import Derived.Laws.StructEq
import Derived.Laws.Cover3
import Derived.WalkLawsBesides
import Derived.Outline
import Derived.Deep.CutRange
import Derived.Test.YtofffmnkoelifaaPk16
namespace Go.Proofs.Ytofffmnkoelifaa.rc
open Go.ChangeShapes Go.WideShapes Go.ChangeAt Go.RowKit Go.Shelf
open Go.Proofs.Ytofffmnkoelifaa.nm Go.Proofs.Ytofffmnkoelifaa.vs Go.Proofs.Ytofffmnkoelifaa.oc Go.Proofs.Ytofffmnkoelifaa.cr

theorem results_cell_tmp3 {fn : Func} {p u v : Tmp} {ty : TypeId} (h : fn.results = #[.cell p ty, .tmp u, .tmp v]) (tmps : Array Value) (P : Program) (w : World) :
    (results fn tmps).run P w =
      ((asAddr (tmps.getD p undef)).run P w).andThen fun a w₁ => ((loadVar ty a).run P w₁).andThen fun x w₂ => .ok (.tuple #[x, tmps.getD u undef, tmps.getD v undef]) w₂ := by
  simp only [results, h]
  simp [Sem.run_bind, Result.andThen]
theorem ret_msg3 {fn : Func} {p u v : Tmp} (h : fn.results = #[.cell p 33, .tmp u, .tmp v]) (tmps : Array Value) (w : World) (b : Nat) (cs : Array Value)
    (hp : tmps.getD p undef = .pointer (some ⟨b, 0, none⟩)) (hg : w.heap[b]? = some (.cells cs 33 (0, 0))) (hc : cs.size = 10) :
    (results fn tmps).run Try.prog w = .ok (.tuple #[.agg cs, tmps.getD u undef, tmps.getD v undef]) w := by
  have hload := run_loadVar_row (P := Try.prog) w b 33 33 cs (0, 0) _ hg Try.underlying33 rfl (by rw [msgSize, hc])
  rw [results_cell_tmp3 h, hp]
  simp [asAddr, hload, Result.andThen]
/-- What Get hands back. -/
def GetIs (m : MsgS) (n c : Int) (w : World) (e : Ending) (w' : World) : Prop :=
  ∃ kv, e = .returned (.tuple #[.agg (msgA m kv), .int .i64 n, .int .i64 c]) ∧ StrsAt w' kv m.keys ∧ Calm w w'
theorem seal_size {t u : ByteArray} (h : openSeal t = some u) : u.size ≤ t.size := by
  unfold openSeal at h
  split at h
  · cases h
  · cases h
    simp
/-- A head's four kinds. -/
theorem head_kinds (a : ByteArray) : a.toList = [] ∨ a.toList = [165] ∨ a.toList = [90] ∨ (a.toList.isEmpty = false ∧ (a.toList == [165]) = false ∧ (a.toList == [90]) = false) := by
  by_cases h0 : a.toList = []
  · exact .inl h0
  · by_cases h1 : a.toList = [165]
    · exact .inr (.inl h1)
    · by_cases h2 : a.toList = [90]
      · exact .inr (.inr (.inl h2))
      · exact .inr (.inr (.inr ⟨by rw [List.isEmpty_eq_false_iff]; exact h0, beq_eq_false_iff_ne.2 h1, beq_eq_false_iff_ne.2 h2⟩))
theorem of_list {a : ByteArray} {l : List UInt8} (h : a.toList = l) : a = ⟨l.toArray⟩ := ba_ext (by rw [← Lib.toList_data, h])
theorem isEmpty_no {b : ByteArray} (h : b ≠ ⟨#[]⟩) : b.toList.isEmpty = false := by
  rw [Lib.toList_data, List.isEmpty_eq_false_iff]
  intro e
  exact h (ba_ext e)
theorem toList_ne {a b : ByteArray} (h : a ≠ b) : (a.toList == b.toList) = false := beq_eq_false_iff_ne.2 (fun e => h (ba_ext (by rw [← Lib.toList_data, ← Lib.toList_data]; exact e)))
set_option maxRecDepth 100000 in
set_option maxHeartbeats 16000000 in
theorem Get_any (b : Nat) (s : ByteArray) (w : World) (ht : TabAt w b 1024) (hs : s.size ≤ 1000000) :
    Calls Try.prog 26 #[.pointer (some ⟨b, 0, none⟩), .string s] w (GetIs (getS RightP s).1 (getS RightP s).2.1 (getS RightP s).2.2 w) := by
  have Z0 := box (heap_new w (.cells zeroA 33))
  have C0 := box ((Calm.refl w).alloc (.cells zeroA 33))
  obtain ⟨⟨a, R1⟩, h1⟩ : ∃ r, (⟨s, 0⟩ : Rdr).take 1 = r := ⟨_, rfl⟩
  obtain ⟨⟨n, R2⟩, h2⟩ : ∃ r, R1.num 2 = r := ⟨_, rfl⟩
  obtain ⟨⟨t, R3⟩, h3⟩ : ∃ r, R2.take (max (n - 3) 0) = r := ⟨_, rfl⟩
  have l1 : R1.s.size ≤ 1000000 := Nat.le_trans (by have := take_left (⟨s, 0⟩ : Rdr) 1; rw [h1] at this; exact this) hs
  have l2 : R2.s.size ≤ 1000000 := Nat.le_trans (by have := num_left R1 2; rw [h2] at this; exact this) l1
  have lt : t.size ≤ 1000000 := by
    have : (R2.take (max (n - 3) 0)).1.size ≤ R2.s.size := by
      unfold Rdr.take
      split; exact Nat.zero_le _
      split; exact Nat.zero_le _
      split; exact Nat.zero_le _
      simp only [ByteArray.size_extract]; omega
    rw [h3] at this
    exact Nat.le_trans this l2
  have hn := num_small R1 2
  rw [h2] at hn
  obtain ⟨hn0, hn1⟩ := hn
  simp only at hn0 hn1
  have hget : getS RightP s = if a ≠ ⟨#[]⟩ ∧ a ≠ markC ∧ a ≠ blankC then ((zeroM, 0, 4) : MsgS × Int × Int) else if s.size < 3 then (zeroM, 0, 3) else if n < 3 ∨ (a = blankC ∧ 1024 < n) then (zeroM, 0, 4) else if R3.e ≠ 0 then (zeroM, 0, 3) else if a = blankC ∧ t ≠ zerosB t.size then (zeroM, 0, 4) else if a = blankC then (fillM n.toNat, n, 0) else match openSeal t with
      | none => (zeroM, 0, 5)
      | some u => if (openS u).2.end_ = 0 ∧ (openS u).1.kind ≠ 0 ∧ RightP (openS u).1 then ((openS u).1, n, 0) else (zeroM, 0, 4) := by
    unfold getS
    simp only [h1, h2, h3]
    rfl
  have c1 := box (fun (rb : Nat) (W : World) (h : RdrAt W rb (⟨s, 0⟩ : Rdr)) => (show Calls Try.prog 54 #[.pointer (some ⟨rb, 0, none⟩), .int .i64 1] W (RdrDone (.string a) rb R1 W) from by
    have := Take_any rb (⟨s, 0⟩ : Rdr) 1 W h (Nat.le_trans hs (by decide))
    rwa [h1] at this))
  have c2 := box (fun (rb : Nat) (W : World) (h : RdrAt W rb R1) => (show Calls Try.prog 55 #[.pointer (some ⟨rb, 0, none⟩), .int .i64 2] W (RdrDone (.int .i64 n) rb R2 W) from by
    have := RNum_any rb R1 2 W h (Nat.le_trans l1 (by decide))
    rwa [h2] at this))
  have c3 := box (fun (rb : Nat) (W : World) (h : RdrAt W rb R2) => (show Calls Try.prog 54 #[.pointer (some ⟨rb, 0, none⟩), .int .i64 (max (n - 3) 0)] W (RdrDone (.string t) rb R3 W) from by
    have := Take_any rb R2 (max (n - 3) 0) W h (Nat.le_trans l2 (by decide))
    rwa [h3] at this))
  have cE := box (fun (rb : Nat) (W : World) (h : RdrAt W rb R3) => Err_any rb R3 W h)
  have cZ := box (fun (k : Nat) (W : World) (hk : k ≤ 1000000) => noughts_any k W (by omega))
  have cO := box (fun (W : World) (hW : Calm w W) => Open_any b t W (heap_calm hW ht) lt)
  have cI := box (fun (u : ByteArray) (W : World) (hu : u.size ≤ 1000000) => opened_any u W (by omega))
  have hwn : IntKind.i64.wrap (n - 3) = n - 3 := IntWalk.i64_in _ (by omega)
  have Hget := box hget
  clear h1 h2 h3 l1 l2 ht hs hget
  go_enter Try.func26, Try.ntmps26
  go_wp2_with fail
  refine (New_any s _).mono ?_
  rintro e w1 ⟨rb, hrb, rfl, hr1, hc1⟩
  simp only [World.size_alloc] at hrb
  have X0 := box hr1
  have W1 := box (C0.out.trans hc1)
  have Z1 := box (heap_calm hc1 Z0.out)
  have Hrb := box hrb
  clear hr1 hc1 hrb
  go_wp2_with fail
  refine (c1.out rb _ X0.out).mono ?_
  rintro e w2 ⟨rfl, hr, hk⟩
  have X1 := box hr
  have W2 := box (Below.trans W1.out (hk.below (B := w.heap.size) W1.out.size (fun x e => by have := Hrb.out; omega)))
  have Z2 := box ((hk.block _ (heap_lt Z1.out) (fun e => by have := Hrb.out; omega)).trans Z1.out)
  clear hr hk
  go_wp2_with fail
  refine (c2.out rb _ X1.out).mono ?_
  rintro e w3 ⟨rfl, hr, hk⟩
  have X2 := box hr
  have W3 := box (Below.trans W2.out (hk.below (B := w.heap.size) W2.out.size (fun x e => by have := Hrb.out; omega)))
  have Z3 := box ((hk.block _ (heap_lt Z2.out) (fun e => by have := Hrb.out; omega)).trans Z2.out)
  clear hr hk
  go_wp2_with fail
  refine (c3.out rb _ X2.out).mono ?_
  rintro e w4 ⟨rfl, hr, hk⟩
  have X3 := box hr
  have W4 := box (Below.trans W3.out (hk.below (B := w.heap.size) W3.out.size (fun x e => by have := Hrb.out; omega)))
  have Z4 := box ((hk.block _ (heap_lt Z3.out) (fun e => by have := Hrb.out; omega)).trans Z3.out)
  clear hr hk
  have z0 := cell_of Z4.out 0
  have z1 := cell_of Z4.out 1
  have z2 := cell_of Z4.out 2
  have z3 := cell_of Z4.out 3
  have z4 := cell_of Z4.out 4
  have z5 := cell_of Z4.out 5
  have z6 := cell_of Z4.out 6
  have z7 := cell_of Z4.out 7
  have z8 := cell_of Z4.out 8
  have z9 := cell_of Z4.out 9
  have f0 := free_of Z4.out 0
  have f1 := free_of Z4.out 1
  have f2 := free_of Z4.out 2
  have f3 := free_of Z4.out 3
  have f4 := free_of Z4.out 4
  have f5 := free_of Z4.out 5
  have f6 := free_of Z4.out 6
  have f7 := free_of Z4.out 7
  have f8 := free_of Z4.out 8
  have f9 := free_of Z4.out 9
  have hlz := heap_lt Z4.out
  clear X0 X1 X2 W1 W2 W3 Z0 Z1 Z2 Z3 C0 c1 c2 c3
  obtain ⟨k, rfl⟩ : ∃ k : Nat, n = k := ⟨n.toNat, by omega⟩
  clear hn0 hn1 hwn
  rcases head_kinds a with h0 | h0 | h0 | ⟨h0, h1, h2⟩
  · have ea : a = ⟨#[]⟩ := of_list h0
    have hg0 := Hget.out
    rw [if_neg (fun h => h.1 ea)] at hg0
    have Hea := box ea
    have hget := box hg0
    clear ea Hget hg0
    have hnb := box (show ¬ a = blankC by rw [Hea.out]; decide)
    by_cases hs3 : s.size < 3
    · have Hg := box (show getS RightP s = (zeroM, 0, 3) by rw [hget.out, if_pos hs3])
      have Hfin := box (put_msg (w := w4) (b := w.heap.size) (Z4.out) rfl (.int .i64 0) (.int .i64 0) (.int .i64 0) (.int .i64 0) (.int .i64 0) (.int .i64 0) (.string ⟨#[]⟩) (.string ⟨#[]⟩) (.string ⟨#[]⟩) (.slice none 0 0))
      have Cfin := box (calm_put_msg (a := w) (w := w4) (W4.out) (b := w.heap.size) (Nat.le_refl _) (.int .i64 0) (.int .i64 0) (.int .i64 0) (.int .i64 0) (.int .i64 0) (.int .i64 0) (.string ⟨#[]⟩) (.string ⟨#[]⟩) (.string ⟨#[]⟩) (.slice none 0 0))
      go_wp2_with fail
      (try simp only [Exit.inBlock, Exit.then])
      refine bodyPost_ret (ret_msg3 rfl _ _ w.heap.size _ rfl Hfin.out rfl) rfl ?_
      unfold GetIs
      rw [Hg.out]
      exact ⟨.slice none 0 0, rfl, .inl ⟨rfl, none, 0, rfl⟩, Cfin.out⟩
    have hget := box (hget.out.trans (if_neg hs3))
    by_cases hn3 : (k : Int) < 3
    · have Hg := box (show getS RightP s = (zeroM, 0, 4) by rw [hget.out, if_pos (.inl hn3)])
      have Hfin := box (put_msg (w := w4) (b := w.heap.size) (Z4.out) rfl (.int .i64 0) (.int .i64 0) (.int .i64 0) (.int .i64 0) (.int .i64 0) (.int .i64 0) (.string ⟨#[]⟩) (.string ⟨#[]⟩) (.string ⟨#[]⟩) (.slice none 0 0))
      have Cfin := box (calm_put_msg (a := w) (w := w4) (W4.out) (b := w.heap.size) (Nat.le_refl _) (.int .i64 0) (.int .i64 0) (.int .i64 0) (.int .i64 0) (.int .i64 0) (.int .i64 0) (.string ⟨#[]⟩) (.string ⟨#[]⟩) (.string ⟨#[]⟩) (.slice none 0 0))
      go_wp2_with fail
      (try simp only [Exit.inBlock, Exit.then])
      refine bodyPost_ret (ret_msg3 rfl _ _ w.heap.size _ rfl Hfin.out rfl) rfl ?_
      unfold GetIs
      rw [Hg.out]
      exact ⟨.slice none 0 0, rfl, .inl ⟨rfl, none, 0, rfl⟩, Cfin.out⟩
    have hget := box (hget.out.trans (if_neg (fun h => h.elim hn3 fun h => hnb.out h.1)))
    have hn3a : 3 ≤ (k : Int) := by omega
    clear hn3
    by_cases he : R3.e = 0
    · have hget := box (hget.out.trans (if_neg (fun h => h he)))
      have HE := box (fun (W : World) (h : RdrAt W rb R3) => (show Calls Try.prog 56 #[.pointer (some ⟨rb, 0, none⟩)] W fun e w' => e = .returned (.int .i64 0) ∧ W = w' from by
        have := cE.out rb W h
        rwa [he] at this))
      clear he
      have hget := box (hget.out.trans ((if_neg (fun h => hnb.out h.1)).trans (if_neg hnb.out)))
      have hO := box (cO.out w4 W4.out)
      cases hos : openSeal t with
      | none =>
        rw [hos] at hget hO
        have Hg := box hget.out
        clear hos
        go_wp2_with fail
        refine (HE.out _ X3.out).mono ?_
        rintro e w' ⟨rfl, rfl⟩
        go_wp2_with fail
        refine hO.out.mono ?_
        rintro e w5 ⟨rfl, hc5⟩
        have Z5 := box (heap_calm hc5 Z4.out)
        have W5 := box (Calm.trans W4.out hc5)
        clear hc5
        clear z0 z1 z2 z3 z4 z5 z6 z7 z8 z9 f0 f1 f2 f3 f4 f5 f6 f7 f8 f9 hlz
        have z0 := cell_of Z5.out 0
        have z1 := cell_of Z5.out 1
        have z2 := cell_of Z5.out 2
        have z3 := cell_of Z5.out 3
        have z4 := cell_of Z5.out 4
        have z5 := cell_of Z5.out 5
        have z6 := cell_of Z5.out 6
        have z7 := cell_of Z5.out 7
        have z8 := cell_of Z5.out 8
        have z9 := cell_of Z5.out 9
        have f0 := free_of Z5.out 0
        have f1 := free_of Z5.out 1
        have f2 := free_of Z5.out 2
        have f3 := free_of Z5.out 3
        have f4 := free_of Z5.out 4
        have f5 := free_of Z5.out 5
        have f6 := free_of Z5.out 6
        have f7 := free_of Z5.out 7
        have f8 := free_of Z5.out 8
        have f9 := free_of Z5.out 9
        have hlz := heap_lt Z5.out
        unfold openV
        have Hfin := box (put_msg (w := w5) (b := w.heap.size) (Z5.out) rfl (.int .i64 0) (.int .i64 0) (.int .i64 0) (.int .i64 0) (.int .i64 0) (.int .i64 0) (.string ⟨#[]⟩) (.string ⟨#[]⟩) (.string ⟨#[]⟩) (.slice none 0 0))
        have Cfin := box (calm_put_msg (a := w) (w := w5) (W5.out) (b := w.heap.size) (Nat.le_refl _) (.int .i64 0) (.int .i64 0) (.int .i64 0) (.int .i64 0) (.int .i64 0) (.int .i64 0) (.string ⟨#[]⟩) (.string ⟨#[]⟩) (.string ⟨#[]⟩) (.slice none 0 0))
        go_wp2_with fail
        (try simp only [Exit.inBlock, Exit.then])
        refine bodyPost_ret (ret_msg3 rfl _ _ w.heap.size _ rfl Hfin.out rfl) rfl ?_
        unfold GetIs
        rw [Hg.out]
        exact ⟨.slice none 0 0, rfl, .inl ⟨rfl, none, 0, rfl⟩, Cfin.out⟩
      | some u =>
        rw [hos] at hget hO
        have hI := box (fun W => cI.out u W (Nat.le_trans (seal_size hos) lt))
        have Hdef := box (show OpenOk u ↔ (openS u).2.end_ = 0 ∧ (openS u).1.kind ≠ 0 ∧ RightP (openS u).1 from Iff.rfl)
        clear hos
        obtain ⟨q, hq⟩ : ∃ q, decide (OpenOk u) = q := ⟨_, rfl⟩
        have Hq := box hq
        have hI2 := box (fun W => (hI.out W).mono fun e w' h => (show ∃ kv, e = .returned (.tuple #[.agg (msgA (openS u).1 kv), .bool q]) ∧ StrsAt w' kv (openS u).1.keys ∧ Calm W w' ∧ ∀ a n c, kv = .slice (some a) n c → 0 < n → W.heap.size ≤ a.block from by obtain ⟨kv, h1, h2⟩ := h; rw [hq] at h1; exact ⟨kv, h1, h2⟩))
        clear hq hI
        have hg2 := hget.out
        obtain ⟨⟨v1, v2, v3, v4, v5, v6, v7, v8, v9, L⟩, hx⟩ : ∃ x, (openS u).1 = x := ⟨_, rfl⟩
        simp only [hx] at hI2 Hdef hg2
        have hget := box hg2
        clear hx hg2
        go_wp2_with fail
        refine (HE.out _ X3.out).mono ?_
        rintro e w' ⟨rfl, rfl⟩
        go_wp2_with fail
        refine hO.out.mono ?_
        rintro e w5 ⟨rfl, hc5⟩
        have Z5 := box (heap_calm hc5 Z4.out)
        have W5 := box (Calm.trans W4.out hc5)
        clear hc5
        clear z0 z1 z2 z3 z4 z5 z6 z7 z8 z9 f0 f1 f2 f3 f4 f5 f6 f7 f8 f9 hlz
        unfold openV
        go_wp2_with fail
        refine (hI2.out _).mono ?_
        rintro e w6 ⟨kv, rfl, hst, hc6, hfr⟩
        obtain ⟨ka, kcap, rfl, _⟩ := hst.uni
        have S6 := box hst
        have FR := box (show ∀ a n c, Value.slice ka L.length kcap = .slice (some a) n c → 0 < n → w.heap.size < a.block from fun a n c e hn => by have := hfr a n c e hn; have := heap_lt Z5.out; omega)
        have Z6 := box (heap_calm hc6 Z5.out)
        have W6 := box (Calm.trans W5.out hc6)
        clear hc6 hst hfr
        have Z7 := box (heap_old w6 (.cells (msgA ⟨v1, v2, v3, v4, v5, v6, v7, v8, v9, L⟩ (.slice ka L.length kcap)) 33) Z6.out)
        have W7 := box (Calm.alloc W6.out (.cells (msgA ⟨v1, v2, v3, v4, v5, v6, v7, v8, v9, L⟩ (.slice ka L.length kcap)) 33))
        have S7 := box (S6.out.calm ((Calm.refl w6).alloc (.cells (msgA ⟨v1, v2, v3, v4, v5, v6, v7, v8, v9, L⟩ (.slice ka L.length kcap)) 33)))
        have N7 := box (heap_new w6 (.cells (msgA ⟨v1, v2, v3, v4, v5, v6, v7, v8, v9, L⟩ (.slice ka L.length kcap)) 33))
        have hl6 := heap_lt Z6.out
        cases q
        · have Hg := box (show getS RightP s = (zeroM, 0, 4) by rw [hget.out, if_neg (fun h => of_decide_eq_false Hq.out (Hdef.out.2 h))])
          go_upto_region 23 with (fail)
          obtain ⟨w7, hw7⟩ : ∃ X, w6.alloc (.cells (msgA ⟨v1, v2, v3, v4, v5, v6, v7, v8, v9, L⟩ (.slice ka L.length kcap)) 33) = X := ⟨_, rfl⟩
          rw [hw7] at Z7 W7 S7 N7
          rw [hw7]
          clear hw7
          have z0 := cell_of Z7.out 0
          have z1 := cell_of Z7.out 1
          have z2 := cell_of Z7.out 2
          have z3 := cell_of Z7.out 3
          have z4 := cell_of Z7.out 4
          have z5 := cell_of Z7.out 5
          have z6 := cell_of Z7.out 6
          have z7 := cell_of Z7.out 7
          have z8 := cell_of Z7.out 8
          have z9 := cell_of Z7.out 9
          have f0 := free_of Z7.out 0
          have f1 := free_of Z7.out 1
          have f2 := free_of Z7.out 2
          have f3 := free_of Z7.out 3
          have f4 := free_of Z7.out 4
          have f5 := free_of Z7.out 5
          have f6 := free_of Z7.out 6
          have f7 := free_of Z7.out 7
          have f8 := free_of Z7.out 8
          have f9 := free_of Z7.out 9
          have hlz := heap_lt Z7.out
          have Hfin := box (put_msg (w := w7) (b := w.heap.size) (Z7.out) rfl (.int .i64 0) (.int .i64 0) (.int .i64 0) (.int .i64 0) (.int .i64 0) (.int .i64 0) (.string ⟨#[]⟩) (.string ⟨#[]⟩) (.string ⟨#[]⟩) (.slice none 0 0))
          have Cfin := box (calm_put_msg (a := w) (w := w7) (W7.out) (b := w.heap.size) (Nat.le_refl _) (.int .i64 0) (.int .i64 0) (.int .i64 0) (.int .i64 0) (.int .i64 0) (.int .i64 0) (.string ⟨#[]⟩) (.string ⟨#[]⟩) (.string ⟨#[]⟩) (.slice none 0 0))
          go_wp2_with fail
          (try simp only [Exit.inBlock, Exit.then])
          refine bodyPost_ret (ret_msg3 rfl _ _ w.heap.size _ rfl Hfin.out rfl) rfl ?_
          unfold GetIs
          rw [Hg.out]
          exact ⟨.slice none 0 0, rfl, .inl ⟨rfl, none, 0, rfl⟩, Cfin.out⟩
        · have Hg := box (show getS RightP s = (⟨v1, v2, v3, v4, v5, v6, v7, v8, v9, L⟩, (k : Int), 0) by rw [hget.out, if_pos (Hdef.out.1 (of_decide_eq_true Hq.out))])
          go_upto_region 24 with (fail)
          obtain ⟨w7, hw7⟩ : ∃ X, w6.alloc (.cells (msgA ⟨v1, v2, v3, v4, v5, v6, v7, v8, v9, L⟩ (.slice ka L.length kcap)) 33) = X := ⟨_, rfl⟩
          rw [hw7] at Z7 W7 S7 N7
          rw [hw7]
          clear hw7
          have z0 := cell_of Z7.out 0
          have z1 := cell_of Z7.out 1
          have z2 := cell_of Z7.out 2
          have z3 := cell_of Z7.out 3
          have z4 := cell_of Z7.out 4
          have z5 := cell_of Z7.out 5
          have z6 := cell_of Z7.out 6
          have z7 := cell_of Z7.out 7
          have z8 := cell_of Z7.out 8
          have z9 := cell_of Z7.out 9
          have f0 := free_of Z7.out 0
          have f1 := free_of Z7.out 1
          have f2 := free_of Z7.out 2
          have f3 := free_of Z7.out 3
          have f4 := free_of Z7.out 4
          have f5 := free_of Z7.out 5
          have f6 := free_of Z7.out 6
          have f7 := free_of Z7.out 7
          have f8 := free_of Z7.out 8
          have f9 := free_of Z7.out 9
          have hlz := heap_lt Z7.out
          have n0 := cell_of N7.out 0
          have n1 := cell_of N7.out 1
          have n2 := cell_of N7.out 2
          have n3 := cell_of N7.out 3
          have n4 := cell_of N7.out 4
          have n5 := cell_of N7.out 5
          have n6 := cell_of N7.out 6
          have n7 := cell_of N7.out 7
          have n8 := cell_of N7.out 8
          have n9 := cell_of N7.out 9
          have hn7 := heap_lt N7.out
          have Hfin := box (put_msg (w := w7) (b := w.heap.size) (Z7.out) rfl (.int .i64 v1) (.int .i64 v2) (.int .i64 v3) (.int .i64 v4) (.int .i64 v5) (.int .i64 v6) (.string v7) (.string v8) (.string v9) (.slice ka L.length kcap))
          have Cfin := box (calm_put_msg (a := w) (w := w7) (W7.out) (b := w.heap.size) (Nat.le_refl _) (.int .i64 v1) (.int .i64 v2) (.int .i64 v3) (.int .i64 v4) (.int .i64 v5) (.int .i64 v6) (.string v7) (.string v8) (.string v9) (.slice ka L.length kcap))
          have Hk := box (strs_keep S7.out (keeps_put_msg (w := w7) (Keeps.refl (fun b => b = w.heap.size) _) (b := w.heap.size) rfl (.int .i64 v1) (.int .i64 v2) (.int .i64 v3) (.int .i64 v4) (.int .i64 v5) (.int .i64 v6) (.string v7) (.string v8) (.string v9) (.slice ka L.length kcap)) (fun a n c e hn hf => by have := FR.out a n c e hn; omega))
          go_wp2_with fail
          (try simp only [Exit.inBlock, Exit.then])
          refine bodyPost_ret (ret_msg3 rfl _ _ w.heap.size _ rfl Hfin.out rfl) rfl ?_
          unfold GetIs
          rw [Hg.out]
          exact ⟨.slice ka L.length kcap, rfl, Hk.out, Cfin.out⟩
    · have Hg := box (show getS RightP s = (zeroM, 0, 3) by rw [hget.out, if_pos he])
      have e1 : (R3.e == 0) = false := beq_eq_false_iff_ne.2 he
      have e2 : (R3.e != 0) = true := by rw [bne, e1]; rfl
      have HE := box (fun (W : World) (h : RdrAt W rb R3) => cE.out rb W h)
      clear he
      go_wp2_with fail
      refine (HE.out _ X3.out).mono ?_
      rintro e w' ⟨rfl, rfl⟩
      have Hfin := box (put_msg (w := w4) (b := w.heap.size) (Z4.out) rfl (.int .i64 0) (.int .i64 0) (.int .i64 0) (.int .i64 0) (.int .i64 0) (.int .i64 0) (.string ⟨#[]⟩) (.string ⟨#[]⟩) (.string ⟨#[]⟩) (.slice none 0 0))
      have Cfin := box (calm_put_msg (a := w) (w := w4) (W4.out) (b := w.heap.size) (Nat.le_refl _) (.int .i64 0) (.int .i64 0) (.int .i64 0) (.int .i64 0) (.int .i64 0) (.int .i64 0) (.string ⟨#[]⟩) (.string ⟨#[]⟩) (.string ⟨#[]⟩) (.slice none 0 0))
      go_wp2_with fail
      (try simp only [Exit.inBlock, Exit.then])
      refine bodyPost_ret (ret_msg3 rfl _ _ w.heap.size _ rfl Hfin.out rfl) rfl ?_
      unfold GetIs
      rw [Hg.out]
      exact ⟨.slice none 0 0, rfl, .inl ⟨rfl, none, 0, rfl⟩, Cfin.out⟩
  · have ea : a = markC := of_list h0
    have hg0 := Hget.out
    rw [if_neg (fun h => h.2.1 ea)] at hg0
    have Hea := box ea
    have hget := box hg0
    clear ea Hget hg0
    have hnb := box (show ¬ a = blankC by rw [Hea.out]; decide)
    by_cases hs3 : s.size < 3
    · have Hg := box (show getS RightP s = (zeroM, 0, 3) by rw [hget.out, if_pos hs3])
      have Hfin := box (put_msg (w := w4) (b := w.heap.size) (Z4.out) rfl (.int .i64 0) (.int .i64 0) (.int .i64 0) (.int .i64 0) (.int .i64 0) (.int .i64 0) (.string ⟨#[]⟩) (.string ⟨#[]⟩) (.string ⟨#[]⟩) (.slice none 0 0))
      have Cfin := box (calm_put_msg (a := w) (w := w4) (W4.out) (b := w.heap.size) (Nat.le_refl _) (.int .i64 0) (.int .i64 0) (.int .i64 0) (.int .i64 0) (.int .i64 0) (.int .i64 0) (.string ⟨#[]⟩) (.string ⟨#[]⟩) (.string ⟨#[]⟩) (.slice none 0 0))
      go_wp2_with fail
      (try simp only [Exit.inBlock, Exit.then])
      refine bodyPost_ret (ret_msg3 rfl _ _ w.heap.size _ rfl Hfin.out rfl) rfl ?_
      unfold GetIs
      rw [Hg.out]
      exact ⟨.slice none 0 0, rfl, .inl ⟨rfl, none, 0, rfl⟩, Cfin.out⟩
    have hget := box (hget.out.trans (if_neg hs3))
    by_cases hn3 : (k : Int) < 3
    · have Hg := box (show getS RightP s = (zeroM, 0, 4) by rw [hget.out, if_pos (.inl hn3)])
      have Hfin := box (put_msg (w := w4) (b := w.heap.size) (Z4.out) rfl (.int .i64 0) (.int .i64 0) (.int .i64 0) (.int .i64 0) (.int .i64 0) (.int .i64 0) (.string ⟨#[]⟩) (.string ⟨#[]⟩) (.string ⟨#[]⟩) (.slice none 0 0))
      have Cfin := box (calm_put_msg (a := w) (w := w4) (W4.out) (b := w.heap.size) (Nat.le_refl _) (.int .i64 0) (.int .i64 0) (.int .i64 0) (.int .i64 0) (.int .i64 0) (.int .i64 0) (.string ⟨#[]⟩) (.string ⟨#[]⟩) (.string ⟨#[]⟩) (.slice none 0 0))
      go_wp2_with fail
      (try simp only [Exit.inBlock, Exit.then])
      refine bodyPost_ret (ret_msg3 rfl _ _ w.heap.size _ rfl Hfin.out rfl) rfl ?_
      unfold GetIs
      rw [Hg.out]
      exact ⟨.slice none 0 0, rfl, .inl ⟨rfl, none, 0, rfl⟩, Cfin.out⟩
    have hget := box (hget.out.trans (if_neg (fun h => h.elim hn3 fun h => hnb.out h.1)))
    have hn3a : 3 ≤ (k : Int) := by omega
    clear hn3
    by_cases he : R3.e = 0
    · have hget := box (hget.out.trans (if_neg (fun h => h he)))
      have HE := box (fun (W : World) (h : RdrAt W rb R3) => (show Calls Try.prog 56 #[.pointer (some ⟨rb, 0, none⟩)] W fun e w' => e = .returned (.int .i64 0) ∧ W = w' from by
        have := cE.out rb W h
        rwa [he] at this))
      clear he
      have hget := box (hget.out.trans ((if_neg (fun h => hnb.out h.1)).trans (if_neg hnb.out)))
      have hO := box (cO.out w4 W4.out)
      cases hos : openSeal t with
      | none =>
        rw [hos] at hget hO
        have Hg := box hget.out
        clear hos
        go_wp2_with fail
        refine (HE.out _ X3.out).mono ?_
        rintro e w' ⟨rfl, rfl⟩
        go_wp2_with fail
        refine hO.out.mono ?_
        rintro e w5 ⟨rfl, hc5⟩
        have Z5 := box (heap_calm hc5 Z4.out)
        have W5 := box (Calm.trans W4.out hc5)
        clear hc5
        clear z0 z1 z2 z3 z4 z5 z6 z7 z8 z9 f0 f1 f2 f3 f4 f5 f6 f7 f8 f9 hlz
        have z0 := cell_of Z5.out 0
        have z1 := cell_of Z5.out 1
        have z2 := cell_of Z5.out 2
        have z3 := cell_of Z5.out 3
        have z4 := cell_of Z5.out 4
        have z5 := cell_of Z5.out 5
        have z6 := cell_of Z5.out 6
        have z7 := cell_of Z5.out 7
        have z8 := cell_of Z5.out 8
        have z9 := cell_of Z5.out 9
        have f0 := free_of Z5.out 0
        have f1 := free_of Z5.out 1
        have f2 := free_of Z5.out 2
        have f3 := free_of Z5.out 3
        have f4 := free_of Z5.out 4
        have f5 := free_of Z5.out 5
        have f6 := free_of Z5.out 6
        have f7 := free_of Z5.out 7
        have f8 := free_of Z5.out 8
        have f9 := free_of Z5.out 9
        have hlz := heap_lt Z5.out
        unfold openV
        have Hfin := box (put_msg (w := w5) (b := w.heap.size) (Z5.out) rfl (.int .i64 0) (.int .i64 0) (.int .i64 0) (.int .i64 0) (.int .i64 0) (.int .i64 0) (.string ⟨#[]⟩) (.string ⟨#[]⟩) (.string ⟨#[]⟩) (.slice none 0 0))
        have Cfin := box (calm_put_msg (a := w) (w := w5) (W5.out) (b := w.heap.size) (Nat.le_refl _) (.int .i64 0) (.int .i64 0) (.int .i64 0) (.int .i64 0) (.int .i64 0) (.int .i64 0) (.string ⟨#[]⟩) (.string ⟨#[]⟩) (.string ⟨#[]⟩) (.slice none 0 0))
        go_wp2_with fail
        (try simp only [Exit.inBlock, Exit.then])
        refine bodyPost_ret (ret_msg3 rfl _ _ w.heap.size _ rfl Hfin.out rfl) rfl ?_
        unfold GetIs
        rw [Hg.out]
        exact ⟨.slice none 0 0, rfl, .inl ⟨rfl, none, 0, rfl⟩, Cfin.out⟩
      | some u =>
        rw [hos] at hget hO
        have hI := box (fun W => cI.out u W (Nat.le_trans (seal_size hos) lt))
        have Hdef := box (show OpenOk u ↔ (openS u).2.end_ = 0 ∧ (openS u).1.kind ≠ 0 ∧ RightP (openS u).1 from Iff.rfl)
        clear hos
        obtain ⟨q, hq⟩ : ∃ q, decide (OpenOk u) = q := ⟨_, rfl⟩
        have Hq := box hq
        have hI2 := box (fun W => (hI.out W).mono fun e w' h => (show ∃ kv, e = .returned (.tuple #[.agg (msgA (openS u).1 kv), .bool q]) ∧ StrsAt w' kv (openS u).1.keys ∧ Calm W w' ∧ ∀ a n c, kv = .slice (some a) n c → 0 < n → W.heap.size ≤ a.block from by obtain ⟨kv, h1, h2⟩ := h; rw [hq] at h1; exact ⟨kv, h1, h2⟩))
        clear hq hI
        have hg2 := hget.out
        obtain ⟨⟨v1, v2, v3, v4, v5, v6, v7, v8, v9, L⟩, hx⟩ : ∃ x, (openS u).1 = x := ⟨_, rfl⟩
        simp only [hx] at hI2 Hdef hg2
        have hget := box hg2
        clear hx hg2
        go_wp2_with fail
        refine (HE.out _ X3.out).mono ?_
        rintro e w' ⟨rfl, rfl⟩
        go_wp2_with fail
        refine hO.out.mono ?_
        rintro e w5 ⟨rfl, hc5⟩
        have Z5 := box (heap_calm hc5 Z4.out)
        have W5 := box (Calm.trans W4.out hc5)
        clear hc5
        clear z0 z1 z2 z3 z4 z5 z6 z7 z8 z9 f0 f1 f2 f3 f4 f5 f6 f7 f8 f9 hlz
        unfold openV
        go_wp2_with fail
        refine (hI2.out _).mono ?_
        rintro e w6 ⟨kv, rfl, hst, hc6, hfr⟩
        obtain ⟨ka, kcap, rfl, _⟩ := hst.uni
        have S6 := box hst
        have FR := box (show ∀ a n c, Value.slice ka L.length kcap = .slice (some a) n c → 0 < n → w.heap.size < a.block from fun a n c e hn => by have := hfr a n c e hn; have := heap_lt Z5.out; omega)
        have Z6 := box (heap_calm hc6 Z5.out)
        have W6 := box (Calm.trans W5.out hc6)
        clear hc6 hst hfr
        have Z7 := box (heap_old w6 (.cells (msgA ⟨v1, v2, v3, v4, v5, v6, v7, v8, v9, L⟩ (.slice ka L.length kcap)) 33) Z6.out)
        have W7 := box (Calm.alloc W6.out (.cells (msgA ⟨v1, v2, v3, v4, v5, v6, v7, v8, v9, L⟩ (.slice ka L.length kcap)) 33))
        have S7 := box (S6.out.calm ((Calm.refl w6).alloc (.cells (msgA ⟨v1, v2, v3, v4, v5, v6, v7, v8, v9, L⟩ (.slice ka L.length kcap)) 33)))
        have N7 := box (heap_new w6 (.cells (msgA ⟨v1, v2, v3, v4, v5, v6, v7, v8, v9, L⟩ (.slice ka L.length kcap)) 33))
        have hl6 := heap_lt Z6.out
        cases q
        · have Hg := box (show getS RightP s = (zeroM, 0, 4) by rw [hget.out, if_neg (fun h => of_decide_eq_false Hq.out (Hdef.out.2 h))])
          go_upto_region 23 with (fail)
          obtain ⟨w7, hw7⟩ : ∃ X, w6.alloc (.cells (msgA ⟨v1, v2, v3, v4, v5, v6, v7, v8, v9, L⟩ (.slice ka L.length kcap)) 33) = X := ⟨_, rfl⟩
          rw [hw7] at Z7 W7 S7 N7
          rw [hw7]
          clear hw7
          have z0 := cell_of Z7.out 0
          have z1 := cell_of Z7.out 1
          have z2 := cell_of Z7.out 2
          have z3 := cell_of Z7.out 3
          have z4 := cell_of Z7.out 4
          have z5 := cell_of Z7.out 5
          have z6 := cell_of Z7.out 6
          have z7 := cell_of Z7.out 7
          have z8 := cell_of Z7.out 8
          have z9 := cell_of Z7.out 9
          have f0 := free_of Z7.out 0
          have f1 := free_of Z7.out 1
          have f2 := free_of Z7.out 2
          have f3 := free_of Z7.out 3
          have f4 := free_of Z7.out 4
          have f5 := free_of Z7.out 5
          have f6 := free_of Z7.out 6
          have f7 := free_of Z7.out 7
          have f8 := free_of Z7.out 8
          have f9 := free_of Z7.out 9
          have hlz := heap_lt Z7.out
          have Hfin := box (put_msg (w := w7) (b := w.heap.size) (Z7.out) rfl (.int .i64 0) (.int .i64 0) (.int .i64 0) (.int .i64 0) (.int .i64 0) (.int .i64 0) (.string ⟨#[]⟩) (.string ⟨#[]⟩) (.string ⟨#[]⟩) (.slice none 0 0))
          have Cfin := box (calm_put_msg (a := w) (w := w7) (W7.out) (b := w.heap.size) (Nat.le_refl _) (.int .i64 0) (.int .i64 0) (.int .i64 0) (.int .i64 0) (.int .i64 0) (.int .i64 0) (.string ⟨#[]⟩) (.string ⟨#[]⟩) (.string ⟨#[]⟩) (.slice none 0 0))
          go_wp2_with fail
          (try simp only [Exit.inBlock, Exit.then])
          refine bodyPost_ret (ret_msg3 rfl _ _ w.heap.size _ rfl Hfin.out rfl) rfl ?_
          unfold GetIs
          rw [Hg.out]
          exact ⟨.slice none 0 0, rfl, .inl ⟨rfl, none, 0, rfl⟩, Cfin.out⟩
        · have Hg := box (show getS RightP s = (⟨v1, v2, v3, v4, v5, v6, v7, v8, v9, L⟩, (k : Int), 0) by rw [hget.out, if_pos (Hdef.out.1 (of_decide_eq_true Hq.out))])
          go_upto_region 24 with (fail)
          obtain ⟨w7, hw7⟩ : ∃ X, w6.alloc (.cells (msgA ⟨v1, v2, v3, v4, v5, v6, v7, v8, v9, L⟩ (.slice ka L.length kcap)) 33) = X := ⟨_, rfl⟩
          rw [hw7] at Z7 W7 S7 N7
          rw [hw7]
          clear hw7
          have z0 := cell_of Z7.out 0
          have z1 := cell_of Z7.out 1
          have z2 := cell_of Z7.out 2
          have z3 := cell_of Z7.out 3
          have z4 := cell_of Z7.out 4
          have z5 := cell_of Z7.out 5
          have z6 := cell_of Z7.out 6
          have z7 := cell_of Z7.out 7
          have z8 := cell_of Z7.out 8
          have z9 := cell_of Z7.out 9
          have f0 := free_of Z7.out 0
          have f1 := free_of Z7.out 1
          have f2 := free_of Z7.out 2
          have f3 := free_of Z7.out 3
          have f4 := free_of Z7.out 4
          have f5 := free_of Z7.out 5
          have f6 := free_of Z7.out 6
          have f7 := free_of Z7.out 7
          have f8 := free_of Z7.out 8
          have f9 := free_of Z7.out 9
          have hlz := heap_lt Z7.out
          have n0 := cell_of N7.out 0
          have n1 := cell_of N7.out 1
          have n2 := cell_of N7.out 2
          have n3 := cell_of N7.out 3
          have n4 := cell_of N7.out 4
          have n5 := cell_of N7.out 5
          have n6 := cell_of N7.out 6
          have n7 := cell_of N7.out 7
          have n8 := cell_of N7.out 8
          have n9 := cell_of N7.out 9
          have hn7 := heap_lt N7.out
          have Hfin := box (put_msg (w := w7) (b := w.heap.size) (Z7.out) rfl (.int .i64 v1) (.int .i64 v2) (.int .i64 v3) (.int .i64 v4) (.int .i64 v5) (.int .i64 v6) (.string v7) (.string v8) (.string v9) (.slice ka L.length kcap))
          have Cfin := box (calm_put_msg (a := w) (w := w7) (W7.out) (b := w.heap.size) (Nat.le_refl _) (.int .i64 v1) (.int .i64 v2) (.int .i64 v3) (.int .i64 v4) (.int .i64 v5) (.int .i64 v6) (.string v7) (.string v8) (.string v9) (.slice ka L.length kcap))
          have Hk := box (strs_keep S7.out (keeps_put_msg (w := w7) (Keeps.refl (fun b => b = w.heap.size) _) (b := w.heap.size) rfl (.int .i64 v1) (.int .i64 v2) (.int .i64 v3) (.int .i64 v4) (.int .i64 v5) (.int .i64 v6) (.string v7) (.string v8) (.string v9) (.slice ka L.length kcap)) (fun a n c e hn hf => by have := FR.out a n c e hn; omega))
          go_wp2_with fail
          (try simp only [Exit.inBlock, Exit.then])
          refine bodyPost_ret (ret_msg3 rfl _ _ w.heap.size _ rfl Hfin.out rfl) rfl ?_
          unfold GetIs
          rw [Hg.out]
          exact ⟨.slice ka L.length kcap, rfl, Hk.out, Cfin.out⟩
    · have Hg := box (show getS RightP s = (zeroM, 0, 3) by rw [hget.out, if_pos he])
      have e1 : (R3.e == 0) = false := beq_eq_false_iff_ne.2 he
      have e2 : (R3.e != 0) = true := by rw [bne, e1]; rfl
      have HE := box (fun (W : World) (h : RdrAt W rb R3) => cE.out rb W h)
      clear he
      go_wp2_with fail
      refine (HE.out _ X3.out).mono ?_
      rintro e w' ⟨rfl, rfl⟩
      have Hfin := box (put_msg (w := w4) (b := w.heap.size) (Z4.out) rfl (.int .i64 0) (.int .i64 0) (.int .i64 0) (.int .i64 0) (.int .i64 0) (.int .i64 0) (.string ⟨#[]⟩) (.string ⟨#[]⟩) (.string ⟨#[]⟩) (.slice none 0 0))
      have Cfin := box (calm_put_msg (a := w) (w := w4) (W4.out) (b := w.heap.size) (Nat.le_refl _) (.int .i64 0) (.int .i64 0) (.int .i64 0) (.int .i64 0) (.int .i64 0) (.int .i64 0) (.string ⟨#[]⟩) (.string ⟨#[]⟩) (.string ⟨#[]⟩) (.slice none 0 0))
      go_wp2_with fail
      (try simp only [Exit.inBlock, Exit.then])
      refine bodyPost_ret (ret_msg3 rfl _ _ w.heap.size _ rfl Hfin.out rfl) rfl ?_
      unfold GetIs
      rw [Hg.out]
      exact ⟨.slice none 0 0, rfl, .inl ⟨rfl, none, 0, rfl⟩, Cfin.out⟩
  · have ea : a = blankC := of_list h0
    have hg0 := Hget.out
    rw [if_neg (fun h => h.2.2 ea)] at hg0
    have Hea := box ea
    have hget := box hg0
    clear ea Hget hg0
    by_cases hs3 : s.size < 3
    · have Hg := box (show getS RightP s = (zeroM, 0, 3) by rw [hget.out, if_pos hs3])
      have Hfin := box (put_msg (w := w4) (b := w.heap.size) (Z4.out) rfl (.int .i64 0) (.int .i64 0) (.int .i64 0) (.int .i64 0) (.int .i64 0) (.int .i64 0) (.string ⟨#[]⟩) (.string ⟨#[]⟩) (.string ⟨#[]⟩) (.slice none 0 0))
      have Cfin := box (calm_put_msg (a := w) (w := w4) (W4.out) (b := w.heap.size) (Nat.le_refl _) (.int .i64 0) (.int .i64 0) (.int .i64 0) (.int .i64 0) (.int .i64 0) (.int .i64 0) (.string ⟨#[]⟩) (.string ⟨#[]⟩) (.string ⟨#[]⟩) (.slice none 0 0))
      go_wp2_with fail
      (try simp only [Exit.inBlock, Exit.then])
      refine bodyPost_ret (ret_msg3 rfl _ _ w.heap.size _ rfl Hfin.out rfl) rfl ?_
      unfold GetIs
      rw [Hg.out]
      exact ⟨.slice none 0 0, rfl, .inl ⟨rfl, none, 0, rfl⟩, Cfin.out⟩
    have hget := box (hget.out.trans (if_neg hs3))
    by_cases hn3 : (k : Int) < 3 ∨ 1024 < (k : Int)
    · have Hg := box (show getS RightP s = (zeroM, 0, 4) by rw [hget.out, if_pos (hn3.imp id fun h => ⟨Hea.out, h⟩)])
      have hn3' : (k : Int) < 3 ∨ (3 ≤ (k : Int) ∧ 1024 < (k : Int)) := by omega
      clear hn3
      rcases hn3' with hn3 | ⟨hn3, hn4⟩
      all_goals
        have Hfin := box (put_msg (w := w4) (b := w.heap.size) (Z4.out) rfl (.int .i64 0) (.int .i64 0) (.int .i64 0) (.int .i64 0) (.int .i64 0) (.int .i64 0) (.string ⟨#[]⟩) (.string ⟨#[]⟩) (.string ⟨#[]⟩) (.slice none 0 0))
        have Cfin := box (calm_put_msg (a := w) (w := w4) (W4.out) (b := w.heap.size) (Nat.le_refl _) (.int .i64 0) (.int .i64 0) (.int .i64 0) (.int .i64 0) (.int .i64 0) (.int .i64 0) (.string ⟨#[]⟩) (.string ⟨#[]⟩) (.string ⟨#[]⟩) (.slice none 0 0))
        go_wp2_with fail
        (try simp only [Exit.inBlock, Exit.then])
        refine bodyPost_ret (ret_msg3 rfl _ _ w.heap.size _ rfl Hfin.out rfl) rfl ?_
        unfold GetIs
        rw [Hg.out]
        exact ⟨.slice none 0 0, rfl, .inl ⟨rfl, none, 0, rfl⟩, Cfin.out⟩
    have hget := box (hget.out.trans (if_neg (fun h => hn3 (h.imp id fun h => h.2))))
    have hn3a : 3 ≤ (k : Int) := by omega
    have hn3b : (k : Int) ≤ 1024 := by omega
    clear hn3
    by_cases he : R3.e = 0
    · have hget := box (hget.out.trans (if_neg (fun h => h he)))
      have HE := box (fun (W : World) (h : RdrAt W rb R3) => (show Calls Try.prog 56 #[.pointer (some ⟨rb, 0, none⟩)] W fun e w' => e = .returned (.int .i64 0) ∧ W = w' from by
        have := cE.out rb W h
        rwa [he] at this))
      clear he
      by_cases hz : t = zerosB t.size
      · have Hg := box (hget.out.trans ((if_neg (fun h => h.2 hz)).trans (if_pos Hea.out)))
        rw [Int.toNat_natCast] at Hg
        have hzt : (t.toList == (zerosB t.size).toList) = true := by rw [← hz]; exact beq_self_eq_true _
        clear hz
        go_wp2_with fail
        refine (HE.out _ X3.out).mono ?_
        rintro e w' ⟨rfl, rfl⟩
        go_wp2_with fail
        refine (cZ.out t.size _ lt).mono ?_
        rintro e w5 ⟨rfl, hc5⟩
        have Z5 := box (heap_calm hc5 Z4.out)
        have W5 := box (Calm.trans W4.out hc5)
        clear hc5
        clear z0 z1 z2 z3 z4 z5 z6 z7 z8 z9 f0 f1 f2 f3 f4 f5 f6 f7 f8 f9 hlz
        go_wp2_with fail
        refine (cZ.out k _ (by omega)).mono ?_
        rintro e w6 ⟨rfl, hc6⟩
        have Z6 := box (heap_calm hc6 Z5.out)
        have W6 := box (Calm.trans W5.out hc6)
        clear hc6
        have z0 := cell_of Z6.out 0
        have z1 := cell_of Z6.out 1
        have z2 := cell_of Z6.out 2
        have z3 := cell_of Z6.out 3
        have z4 := cell_of Z6.out 4
        have z5 := cell_of Z6.out 5
        have z6 := cell_of Z6.out 6
        have z7 := cell_of Z6.out 7
        have z8 := cell_of Z6.out 8
        have z9 := cell_of Z6.out 9
        have f0 := free_of Z6.out 0
        have f1 := free_of Z6.out 1
        have f2 := free_of Z6.out 2
        have f3 := free_of Z6.out 3
        have f4 := free_of Z6.out 4
        have f5 := free_of Z6.out 5
        have f6 := free_of Z6.out 6
        have f7 := free_of Z6.out 7
        have f8 := free_of Z6.out 8
        have f9 := free_of Z6.out 9
        have hlz := heap_lt Z6.out
        have Hfin := box (put_msg (w := w6) (b := w.heap.size) (Z6.out) rfl (.int .i64 0) (.int .i64 0) (.int .i64 0) (.int .i64 0) (.int .i64 0) (.int .i64 0) (.string ⟨#[]⟩) (.string ⟨#[]⟩) (.string (zerosB k)) (.slice none 0 0))
        have Cfin := box (calm_put_msg (a := w) (w := w6) (W6.out) (b := w.heap.size) (Nat.le_refl _) (.int .i64 0) (.int .i64 0) (.int .i64 0) (.int .i64 0) (.int .i64 0) (.int .i64 0) (.string ⟨#[]⟩) (.string ⟨#[]⟩) (.string (zerosB k)) (.slice none 0 0))
        go_wp2_with fail
        (try simp only [Exit.inBlock, Exit.then])
        refine bodyPost_ret (ret_msg3 rfl _ _ w.heap.size _ rfl Hfin.out rfl) rfl ?_
        unfold GetIs
        rw [Hg.out]
        exact ⟨.slice none 0 0, rfl, .inl ⟨rfl, none, 0, rfl⟩, Cfin.out⟩
      · have Hg := box (hget.out.trans (if_pos ⟨Hea.out, hz⟩))
        have hzt : (t.toList == (zerosB t.size).toList) = false := toList_ne hz
        clear hz
        go_wp2_with fail
        refine (HE.out _ X3.out).mono ?_
        rintro e w' ⟨rfl, rfl⟩
        go_wp2_with fail
        refine (cZ.out t.size _ lt).mono ?_
        rintro e w5 ⟨rfl, hc5⟩
        have Z5 := box (heap_calm hc5 Z4.out)
        have W5 := box (Calm.trans W4.out hc5)
        clear hc5
        clear z0 z1 z2 z3 z4 z5 z6 z7 z8 z9 f0 f1 f2 f3 f4 f5 f6 f7 f8 f9 hlz
        have z0 := cell_of Z5.out 0
        have z1 := cell_of Z5.out 1
        have z2 := cell_of Z5.out 2
        have z3 := cell_of Z5.out 3
        have z4 := cell_of Z5.out 4
        have z5 := cell_of Z5.out 5
        have z6 := cell_of Z5.out 6
        have z7 := cell_of Z5.out 7
        have z8 := cell_of Z5.out 8
        have z9 := cell_of Z5.out 9
        have f0 := free_of Z5.out 0
        have f1 := free_of Z5.out 1
        have f2 := free_of Z5.out 2
        have f3 := free_of Z5.out 3
        have f4 := free_of Z5.out 4
        have f5 := free_of Z5.out 5
        have f6 := free_of Z5.out 6
        have f7 := free_of Z5.out 7
        have f8 := free_of Z5.out 8
        have f9 := free_of Z5.out 9
        have hlz := heap_lt Z5.out
        have Hfin := box (put_msg (w := w5) (b := w.heap.size) (Z5.out) rfl (.int .i64 0) (.int .i64 0) (.int .i64 0) (.int .i64 0) (.int .i64 0) (.int .i64 0) (.string ⟨#[]⟩) (.string ⟨#[]⟩) (.string ⟨#[]⟩) (.slice none 0 0))
        have Cfin := box (calm_put_msg (a := w) (w := w5) (W5.out) (b := w.heap.size) (Nat.le_refl _) (.int .i64 0) (.int .i64 0) (.int .i64 0) (.int .i64 0) (.int .i64 0) (.int .i64 0) (.string ⟨#[]⟩) (.string ⟨#[]⟩) (.string ⟨#[]⟩) (.slice none 0 0))
        go_wp2_with fail
        (try simp only [Exit.inBlock, Exit.then])
        refine bodyPost_ret (ret_msg3 rfl _ _ w.heap.size _ rfl Hfin.out rfl) rfl ?_
        unfold GetIs
        rw [Hg.out]
        exact ⟨.slice none 0 0, rfl, .inl ⟨rfl, none, 0, rfl⟩, Cfin.out⟩
    · have Hg := box (show getS RightP s = (zeroM, 0, 3) by rw [hget.out, if_pos he])
      have e1 : (R3.e == 0) = false := beq_eq_false_iff_ne.2 he
      have e2 : (R3.e != 0) = true := by rw [bne, e1]; rfl
      have HE := box (fun (W : World) (h : RdrAt W rb R3) => cE.out rb W h)
      clear he
      go_wp2_with fail
      refine (HE.out _ X3.out).mono ?_
      rintro e w' ⟨rfl, rfl⟩
      have Hfin := box (put_msg (w := w4) (b := w.heap.size) (Z4.out) rfl (.int .i64 0) (.int .i64 0) (.int .i64 0) (.int .i64 0) (.int .i64 0) (.int .i64 0) (.string ⟨#[]⟩) (.string ⟨#[]⟩) (.string ⟨#[]⟩) (.slice none 0 0))
      have Cfin := box (calm_put_msg (a := w) (w := w4) (W4.out) (b := w.heap.size) (Nat.le_refl _) (.int .i64 0) (.int .i64 0) (.int .i64 0) (.int .i64 0) (.int .i64 0) (.int .i64 0) (.string ⟨#[]⟩) (.string ⟨#[]⟩) (.string ⟨#[]⟩) (.slice none 0 0))
      go_wp2_with fail
      (try simp only [Exit.inBlock, Exit.then])
      refine bodyPost_ret (ret_msg3 rfl _ _ w.heap.size _ rfl Hfin.out rfl) rfl ?_
      unfold GetIs
      rw [Hg.out]
      exact ⟨.slice none 0 0, rfl, .inl ⟨rfl, none, 0, rfl⟩, Cfin.out⟩
  · have Hg := box (show getS RightP s = (zeroM, 0, 4) by rw [Hget.out, if_pos ⟨fun e => (by rw [e, Lib.toList_data] at h0; revert h0; decide), fun e => (by rw [e, Lib.toList_data] at h1; revert h1; decide), fun e => (by rw [e, Lib.toList_data] at h2; revert h2; decide)⟩])
    have Hfin := box (put_msg (w := w4) (b := w.heap.size) (Z4.out) rfl (.int .i64 0) (.int .i64 0) (.int .i64 0) (.int .i64 0) (.int .i64 0) (.int .i64 0) (.string ⟨#[]⟩) (.string ⟨#[]⟩) (.string ⟨#[]⟩) (.slice none 0 0))
    have Cfin := box (calm_put_msg (a := w) (w := w4) (W4.out) (b := w.heap.size) (Nat.le_refl _) (.int .i64 0) (.int .i64 0) (.int .i64 0) (.int .i64 0) (.int .i64 0) (.int .i64 0) (.string ⟨#[]⟩) (.string ⟨#[]⟩) (.string ⟨#[]⟩) (.slice none 0 0))
    go_wp2_with fail
    (try simp only [Exit.inBlock, Exit.then])
    refine bodyPost_ret (ret_msg3 rfl _ _ w.heap.size _ rfl Hfin.out rfl) rfl ?_
    unfold GetIs
    rw [Hg.out]
    exact ⟨.slice none 0 0, rfl, .inl ⟨rfl, none, 0, rfl⟩, Cfin.out⟩
end Go.Proofs.Ytofffmnkoelifaa.rc
