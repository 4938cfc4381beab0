/- RecSame: two records are one just if all of them is; unlike right ones have unlike bytes; fillers are as long as they are asked to be. No condition. -/
import Derived.Test.YtofffmnkoelifaaRows
import Derived.WalkKit
import Derived.ProofKit
import Derived.OpenShut
import Derived.Handy
import Derived.Deep.LoopGhost
import Derived.Lib.Hide
import Derived.Lib.Strings
import Derived.SizedLaws
import Derived.Deep.Slices
import Derived.Shelf.SlIter.Nil
import Derived.Ground.GgzProg
import Derived.Shelf.SortM.Plain
import Derived.Shelf.SortM.SortNone
import Derived.Ground.SlgmProg
import Derived.Test.YtofffmnkoelifaaProg
import Derived.Shelf.Strings.Builder1
import Derived.Shelf.Strings.Builder2
import Derived.Shelf.Small.Bits
import Derived.Shelf.Small.Wraps
import Derived.Shelf.Strings.BuilderF
import Derived.Shelf.Strings.BuilderK
import Derived.Shelf.Strings.Builder2Cap
import Derived.Shelf.Strconv.Itoa0
import Derived.Shelf.Sort.Plain
import Derived.Shelf.GgClosure.StringsIndexFunc
import Derived.Ground.GgwProg
import Derived.Shelf.GgClosure.StringsIndexFuncTop
import Derived.Shelf.GgClosure.StringsRunes
import Derived.Shelf.Strings.Prefix
import Derived.Shelf.Bits.Mul64
import Derived.Shelf.Strings.Repeat
import Derived.Shelf.Strings.BuilderCap
import Derived.Shelf.Slices.Equal
import Derived.Ground.Names2Prog
import Derived.Shelf.Slices.Clone
import Derived.Shelf.Slices.CompactS
import Derived.Shelf.Slices.SearchI
import Derived.Shelf.Slices.Cells
import Derived.Shelf.Slices.In.SortNone
import Derived.Shelf.Slices.Empties2
import Derived.Ground.SlgnProg
import Derived.Shelf.SlicesE.Equal
import Derived.Shelf.SlicesE.Compact
import Derived.Ground.SlgfProg
import Derived.Shelf.SlicesE.IndexFunc
import Derived.Shelf.SlicesE.DeleteFunc
import Derived.RangeFuncBox
import Derived.RangeFuncLeaves
import Derived.Shelf.Abstract
import Derived.OwnWalkIn
import Derived.TacticsInMore
import Derived.LoopNIn
import Derived.LoopIn
import Derived.Maps.AppendAt
import Derived.Lib.SlicesCompact
import Derived.Deep.QuietTactic
import Derived.BigQuiet
import Derived.Laws.ResultCell
import Derived.Laws.Rows
import Derived.Lib.ConvBytes
import Derived.Lib.AppendZeros
import Derived.Lib.AppendZerosOnto
import Derived.Lib.LazyBuf
import Derived.Laws.MakeOwn
import Derived.Lib.Builder
import Derived.Lib.AppendStr
import Derived.Deep.RegionHeld3
import Derived.Laws.BitsLemmas
import Derived.Laws.StructEq
import Derived.Laws.Cover3
import Derived.WalkLawsBesides
import Derived.Outline
import Derived.Deep.CutRange
import Derived.Laws.OwnMore
import Derived.Test.YtofffmnkoelifaaPk17
namespace Go.Proofs.Ytofffmnkoelifaa.rsame
open Go.ChangeShapes Go.WideShapes Go.ChangeAt Go.RowKit Go.Shelf
open Go.Proofs.Ytofffmnkoelifaa.nm Go.Proofs.Ytofffmnkoelifaa.vs Go.Proofs.Ytofffmnkoelifaa.oc Go.Proofs.Ytofffmnkoelifaa.cr Go.Proofs.Ytofffmnkoelifaa.rc

theorem awake_any (W : World) : Calls Try.prog 23 #[] W fun e w' => e = .returned (.bool true) ∧ Calm W w' := by
  have hf := box (Fill_any 3 W)
  rw [if_pos (by decide), show fillB (3 : Int).toNat = ⟨#[90, 0, 3]⟩ by decide] at hf
  go_enter Try.func23, Try.ntmps23
  go_wp2_with fail
  refine hf.out.mono ?_
  rintro e w1 ⟨rfl, hc⟩
  have C := box hc
  go_wp2_with fail
  go_ret
  exact ⟨rfl, C.out⟩
theorem strs_lt' {w : World} {v : Value} {l : List ByteArray} (h : StrsAt w v l) : ∀ a n c, v = .slice (some a) n c → 0 < n → a.block < w.heap.size := fun a n c e hn => by
  rcases h with ⟨rfl, a', cap, rfl⟩ | ⟨b, off, cap, rfl, hc⟩
  · cases e; exact absurd hn (Nat.lt_irrefl 0)
  · cases e
    exact World.block_lt_of_cell? w ⟨b, off + 0, none⟩ (hc 0 hn)
theorem longer (s : ByteArray) : s ++ ⟨#[120]⟩ ≠ s := fun e => by
  have h := congrArg ByteArray.size e
  rw [ByteArray.size_append] at h
  have h1 : (⟨#[120]⟩ : ByteArray).size = 1 := rfl
  omega
theorem fill_size (n : Nat) (h : 3 ≤ n) : (fillB n).size = n := by show (_ : List UInt8).toArray.size = _; simp [low_length]; omega
theorem Get_fill (tb k : Nat) (h3 : 3 ≤ k) (h : k ≤ 1024) (w : World) (ht : TabAt w tb 1024) :
    Calls Try.prog 26 #[.pointer (some ⟨tb, 0, none⟩), .string (fillB k)] w (GetIs ⟨0, 0, 0, 0, 0, 0, ⟨#[]⟩, ⟨#[]⟩, zerosB k, []⟩ k 0 w) := by
  have hg := get_fill (P := RightP) k h3 h []
  have he : (⟨((fillB k).data.toList ++ []).toArray⟩ : ByteArray) = fillB k := ba_ext (by rw [List.append_nil])
  rw [he] at hg
  have := Get_any tb (fillB k) w ht (by rw [fill_size k h3]; omega)
  rw [hg] at this
  exact this
set_option maxRecDepth 100000 in
set_option maxHeartbeats 16000000 in
theorem walk (W : World) (y : MsgS × Value) (r : MsgIn W y) (y' : MsgS × Value) (r' : MsgIn W y') (n : Int) (hw : (Lit.int .i64 n).wf = true) :
    Calls Try.prog 7 #[.agg (msgA y.1 y.2), .agg (msgA y'.1 y'.2), .int .i64 n] W fun e W' => e = .returned (.bool true) ∧ Calm W W' := by
  obtain ⟨m, kv⟩ := y
  obtain ⟨m', kv'⟩ := y'
  obtain ⟨hr, z1, z2, z3, zk, zr⟩ := r
  obtain ⟨hr', z1', z2', z3', zk', zr'⟩ := r'
  simp only at hr z1 z2 z3 hr' z1' z2' z3'
  obtain ⟨hst, hkz⟩ := RowsAt.strs hr
  obtain ⟨hst', hkz'⟩ := RowsAt.strs hr'
  obtain ⟨ka, kcap, rfl, _⟩ := hst.uni
  obtain ⟨ka', kcap', rfl, _⟩ := hst'.uni
  have Sa := box hst
  have Sb := box hst'
  have Za := box hkz
  have Zb := box hkz'
  have Wa := box (show m.body.size ≤ maxLen ∧ m.topic.size ≤ maxLen ∧ m.tag.size ≤ maxLen ∧ m.keys.length ≤ maxLen from ⟨z3, z1, z2, hkz.2⟩)
  have Wb := box (show m'.body.size ≤ maxLen ∧ m'.topic.size ≤ maxLen ∧ m'.tag.size ≤ maxLen ∧ m'.keys.length ≤ maxLen from ⟨z3', z1', z2', hkz'.2⟩)
  have hn64 : -9223372036854775808 ≤ n ∧ n ≤ 9223372036854775807 := by unfold Lit.wf at hw; simp [IntKind.min, IntKind.max, IntKind.bits, IntKind.signed] at hw; omega
  clear hr hr' hst hst' hkz hkz' z1 z2 z3 z1' z2' z3' zk zr zk' zr' hw
  obtain ⟨W1, hW1⟩ : ∃ W1, (W.alloc (.cells (msgA m (.slice ka m.keys.length kcap)) 33)).alloc (.cells (msgA m' (.slice ka' m'.keys.length kcap')) 33) = W1 := ⟨_, rfl⟩
  have A0 := box (show W1.heap[W.heap.size]? = some (.cells (msgA m (.slice ka m.keys.length kcap)) 33 (0, 0)) by rw [← hW1]; exact heap_old _ _ (heap_new W _))
  have B0 := box (show W1.heap[W.heap.size + 1]? = some (.cells (msgA m' (.slice ka' m'.keys.length kcap')) 33 (0, 0)) by rw [← hW1]; have := heap_new (W.alloc (.cells (msgA m (.slice ka m.keys.length kcap)) 33)) (.cells (msgA m' (.slice ka' m'.keys.length kcap')) 33); rwa [World.size_alloc] at this)
  have C0 := box (show Calm W W1 by rw [← hW1]; exact ((Calm.refl W).alloc _).alloc _)
  have a0 := cell_of A0.out 0
  have a1 := cell_of A0.out 1
  have a2 := cell_of A0.out 2
  have a3 := cell_of A0.out 3
  have a4 := cell_of A0.out 4
  have a5 := cell_of A0.out 5
  have a6 := cell_of A0.out 6
  have a7 := cell_of A0.out 7
  have a8 := cell_of A0.out 8
  have a9 := cell_of A0.out 9
  have b0 := cell_of B0.out 0
  have b1 := cell_of B0.out 1
  have b2 := cell_of B0.out 2
  have b3 := cell_of B0.out 3
  have b4 := cell_of B0.out 4
  have b5 := cell_of B0.out 5
  have b6 := cell_of B0.out 6
  have b7 := cell_of B0.out 7
  have b8 := cell_of B0.out 8
  have b9 := cell_of B0.out 9
  have hla := heap_lt A0.out
  have hlb := heap_lt B0.out
  go_enter Try.func7, Try.ntmps7
  go_wp2_with fail
  clear hW1
  refine (awake_any _).mono ?_
  rintro e w1 ⟨rfl, hc1⟩
  have A1 := box (heap_calm hc1 A0.out)
  have B1 := box (heap_calm hc1 B0.out)
  have C1 := box (C0.out.trans hc1)
  clear hc1 a0 a1 a2 a3 a4 a5 a6 a7 a8 a9 b0 b1 b2 b3 b4 b5 b6 b7 b8 b9 hla hlb
  have a0 := cell_of A1.out 0
  have a1 := cell_of A1.out 1
  have a2 := cell_of A1.out 2
  have a3 := cell_of A1.out 3
  have a4 := cell_of A1.out 4
  have a5 := cell_of A1.out 5
  have a6 := cell_of A1.out 6
  have a7 := cell_of A1.out 7
  have a8 := cell_of A1.out 8
  have a9 := cell_of A1.out 9
  have b0 := cell_of B1.out 0
  have b1 := cell_of B1.out 1
  have b2 := cell_of B1.out 2
  have b3 := cell_of B1.out 3
  have b4 := cell_of B1.out 4
  have b5 := cell_of B1.out 5
  have b6 := cell_of B1.out 6
  have b7 := cell_of B1.out 7
  have b8 := cell_of B1.out 8
  have b9 := cell_of B1.out 9
  have hla := heap_lt A1.out
  have hlb := heap_lt B1.out
  have G1 := box (heap_new w1 (.cells (msgA2 m (.slice ka m.keys.length kcap) m' (.slice ka' m'.keys.length kcap')) 33))
  have G2 := box ((Calm.refl w1).alloc (.cells (msgA2 m (.slice ka m.keys.length kcap) m' (.slice ka' m'.keys.length kcap')) 33))
  go_wp2_with fail
  have hgr := Great2_any w1.heap.size m m' (.slice ka m.keys.length kcap) (.slice ka' m'.keys.length kcap') _ G1.out (Sa.out.calm (C1.out.trans G2.out)) Za.out.1 Wa.out (Sb.out.calm (C1.out.trans G2.out)) Zb.out.1 Wb.out
  refine hgr.mono ?_
  clear hgr
  rintro e w2 ⟨gr, rfl, hc2, hsm⟩
  have hc2 := G2.out.trans hc2
  have A2 := box (heap_calm hc2 A1.out)
  have B2 := box (heap_calm hc2 B1.out)
  have C2 := box (C1.out.trans hc2)
  clear hc2 a0 a1 a2 a3 a4 a5 a6 a7 a8 a9 b0 b1 b2 b3 b4 b5 b6 b7 b8 b9 hla hlb
  have a0 := cell_of A2.out 0
  have a1 := cell_of A2.out 1
  have a2 := cell_of A2.out 2
  have a3 := cell_of A2.out 3
  have a4 := cell_of A2.out 4
  have a5 := cell_of A2.out 5
  have a6 := cell_of A2.out 6
  have a7 := cell_of A2.out 7
  have a8 := cell_of A2.out 8
  have a9 := cell_of A2.out 9
  have b0 := cell_of B2.out 0
  have b1 := cell_of B2.out 1
  have b2 := cell_of B2.out 2
  have b3 := cell_of B2.out 3
  have b4 := cell_of B2.out 4
  have b5 := cell_of B2.out 5
  have b6 := cell_of B2.out 6
  have b7 := cell_of B2.out 7
  have b8 := cell_of B2.out 8
  have b9 := cell_of B2.out 9
  have hla := heap_lt A2.out
  have hlb := heap_lt B2.out
  cases gr with
  | true =>
    go_wp2_with fail
    go_ret
    exact ⟨rfl, C2.out⟩
  | false =>
    have Hsm := box (hsm rfl)
    clear hsm G1 G2
    have ha1 : m.keys.length ≤ 1000000 := by have := Hsm.out.1.2.2.2.1; omega
    have hb1 : m'.keys.length ≤ 1000000 := by have := Hsm.out.2.2.2.2.1; omega
    have ha2 : m.body.size ≤ 140737488355328 := by have := Hsm.out.1.1; omega
    have hb2 : m'.body.size ≤ 140737488355328 := by have := Hsm.out.2.1; omega
    have hput := box (fun (b : Nat) (w : World) (hC : Calm W w) (ht : TabAt w b 1024) => Put_any b m (.slice ka m.keys.length kcap) w ht (Sa.out.calm hC) Za.out.1 ha1 ha2)
    have hput' := box (fun (b : Nat) (w : World) (hC : Calm W w) (ht : TabAt w b 1024) => Put_any b m' (.slice ka' m'.keys.length kcap') w ht (Sb.out.calm hC) Zb.out.1 hb1 hb2)
    have hrs := box (fun (w : World) (hC : Calm W w) => rSame_any m m' (.slice ka m.keys.length kcap) (.slice ka' m'.keys.length kcap') w (Sa.out.calm hC) (Sb.out.calm hC) ha1 hb1)
    have hss := box (fun (w : World) (hC : Calm W w) => Same_any m m' (.slice ka m.keys.length kcap) (.slice ka' m'.keys.length kcap') w (Sa.out.calm hC) (Sb.out.calm hC) ha1 hb1)
    have hcopy := box (fun (w : World) (hC : Calm W w) => Copy_own m (.slice ka m.keys.length kcap) w (Sa.out.calm hC) ha1)
    have hsu : (putS RightP m).2 = 0 → (putS RightP m').2 = 0 → ((putS RightP m).1.toList == (putS RightP m').1.toList) = decide (m = m') := fun e1 e2 => by
      rw [Bool.eq_iff_iff, beq_iff_eq, decide_eq_true_iff]
      exact ⟨fun e => put_inj right_fits right_zero e1 e2 (ba_ext (by rw [← Lib.toList_data, ← Lib.toList_data]; exact e)), fun e => by rw [e]⟩
    obtain ⟨⟨s, x⟩, hp⟩ : ∃ r, putS RightP m = r := ⟨_, rfl⟩
    obtain ⟨⟨s', x'⟩, hp'⟩ : ∃ r, putS RightP m' = r := ⟨_, rfl⟩
    obtain ⟨sm, hsame⟩ : ∃ r, decide (m = m') = r := ⟨_, rfl⟩
    rw [hp] at hput hsu
    rw [hp'] at hput' hsu
    rw [hsame] at hrs hss hsu
    have Hsu := box hsu
    have Hl := box ha1
    clear hp hp' hsame ha1 hb1 ha2 hb2 hsu
    have hfill := box (fun (w : World) => Fill_any n w)
    go_wp2_with fail
    refine (cr.New_any _).mono ?_
    rintro e w3 ⟨tb, rfl, htab, htb, hc3⟩
    have T3 := box htab
    clear htab htb
    have A3 := box (heap_calm hc3 A2.out)
    have B3 := box (heap_calm hc3 B2.out)
    have C3 := box (C2.out.trans hc3)
    clear hc3 a0 a1 a2 a3 a4 a5 a6 a7 a8 a9 b0 b1 b2 b3 b4 b5 b6 b7 b8 b9 hla hlb
    have a0 := cell_of A3.out 0
    have a1 := cell_of A3.out 1
    have a2 := cell_of A3.out 2
    have a3 := cell_of A3.out 3
    have a4 := cell_of A3.out 4
    have a5 := cell_of A3.out 5
    have a6 := cell_of A3.out 6
    have a7 := cell_of A3.out 7
    have a8 := cell_of A3.out 8
    have a9 := cell_of A3.out 9
    have b0 := cell_of B3.out 0
    have b1 := cell_of B3.out 1
    have b2 := cell_of B3.out 2
    have b3 := cell_of B3.out 3
    have b4 := cell_of B3.out 4
    have b5 := cell_of B3.out 5
    have b6 := cell_of B3.out 6
    have b7 := cell_of B3.out 7
    have b8 := cell_of B3.out 8
    have b9 := cell_of B3.out 9
    have hla := heap_lt A3.out
    have hlb := heap_lt B3.out
    go_wp2_with fail
    refine (hrs.out _ C3.out).mono ?_
    rintro e w4 ⟨rfl, hc4⟩
    have T4 := box (heap_calm hc4 T3.out)
    have A4 := box (heap_calm hc4 A3.out)
    have B4 := box (heap_calm hc4 B3.out)
    have C4 := box (C3.out.trans hc4)
    clear hc4 a0 a1 a2 a3 a4 a5 a6 a7 a8 a9 b0 b1 b2 b3 b4 b5 b6 b7 b8 b9 hla hlb
    have a0 := cell_of A4.out 0
    have a1 := cell_of A4.out 1
    have a2 := cell_of A4.out 2
    have a3 := cell_of A4.out 3
    have a4 := cell_of A4.out 4
    have a5 := cell_of A4.out 5
    have a6 := cell_of A4.out 6
    have a7 := cell_of A4.out 7
    have a8 := cell_of A4.out 8
    have a9 := cell_of A4.out 9
    have b0 := cell_of B4.out 0
    have b1 := cell_of B4.out 1
    have b2 := cell_of B4.out 2
    have b3 := cell_of B4.out 3
    have b4 := cell_of B4.out 4
    have b5 := cell_of B4.out 5
    have b6 := cell_of B4.out 6
    have b7 := cell_of B4.out 7
    have b8 := cell_of B4.out 8
    have b9 := cell_of B4.out 9
    have hla := heap_lt A4.out
    have hlb := heap_lt B4.out
    go_wp2_with fail
    refine (hput.out tb _ C4.out T4.out).mono ?_
    rintro e w5 ⟨rfl, hc5⟩
    have T5 := box (heap_calm hc5 T4.out)
    have A5 := box (heap_calm hc5 A4.out)
    have B5 := box (heap_calm hc5 B4.out)
    have C5 := box (C4.out.trans hc5)
    clear hc5 a0 a1 a2 a3 a4 a5 a6 a7 a8 a9 b0 b1 b2 b3 b4 b5 b6 b7 b8 b9 hla hlb
    have a0 := cell_of A5.out 0
    have a1 := cell_of A5.out 1
    have a2 := cell_of A5.out 2
    have a3 := cell_of A5.out 3
    have a4 := cell_of A5.out 4
    have a5 := cell_of A5.out 5
    have a6 := cell_of A5.out 6
    have a7 := cell_of A5.out 7
    have a8 := cell_of A5.out 8
    have a9 := cell_of A5.out 9
    have b0 := cell_of B5.out 0
    have b1 := cell_of B5.out 1
    have b2 := cell_of B5.out 2
    have b3 := cell_of B5.out 3
    have b4 := cell_of B5.out 4
    have b5 := cell_of B5.out 5
    have b6 := cell_of B5.out 6
    have b7 := cell_of B5.out 7
    have b8 := cell_of B5.out 8
    have b9 := cell_of B5.out 9
    have hla := heap_lt A5.out
    have hlb := heap_lt B5.out
    go_wp2_with fail
    refine (hput'.out tb _ C5.out T5.out).mono ?_
    rintro e w6 ⟨rfl, hc6⟩
    have T6 := box (heap_calm hc6 T5.out)
    have A6 := box (heap_calm hc6 A5.out)
    have B6 := box (heap_calm hc6 B5.out)
    have C6 := box (C5.out.trans hc6)
    clear hc6 a0 a1 a2 a3 a4 a5 a6 a7 a8 a9 b0 b1 b2 b3 b4 b5 b6 b7 b8 b9 hla hlb
    have a0 := cell_of A6.out 0
    have a1 := cell_of A6.out 1
    have a2 := cell_of A6.out 2
    have a3 := cell_of A6.out 3
    have a4 := cell_of A6.out 4
    have a5 := cell_of A6.out 5
    have a6 := cell_of A6.out 6
    have a7 := cell_of A6.out 7
    have a8 := cell_of A6.out 8
    have a9 := cell_of A6.out 9
    have b0 := cell_of B6.out 0
    have b1 := cell_of B6.out 1
    have b2 := cell_of B6.out 2
    have b3 := cell_of B6.out 3
    have b4 := cell_of B6.out 4
    have b5 := cell_of B6.out 5
    have b6 := cell_of B6.out 6
    have b7 := cell_of B6.out 7
    have b8 := cell_of B6.out 8
    have b9 := cell_of B6.out 9
    have hla := heap_lt A6.out
    have hlb := heap_lt B6.out
    go_wp2_with fail
    refine (hss.out _ C6.out).mono ?_
    rintro e w7 ⟨rfl, hc7⟩
    have T7 := box (heap_calm hc7 T6.out)
    have A7 := box (heap_calm hc7 A6.out)
    have B7 := box (heap_calm hc7 B6.out)
    have C7 := box (C6.out.trans hc7)
    clear hc7 a0 a1 a2 a3 a4 a5 a6 a7 a8 a9 b0 b1 b2 b3 b4 b5 b6 b7 b8 b9 hla hlb
    have a0 := cell_of A7.out 0
    have a1 := cell_of A7.out 1
    have a2 := cell_of A7.out 2
    have a3 := cell_of A7.out 3
    have a4 := cell_of A7.out 4
    have a5 := cell_of A7.out 5
    have a6 := cell_of A7.out 6
    have a7 := cell_of A7.out 7
    have a8 := cell_of A7.out 8
    have a9 := cell_of A7.out 9
    have b0 := cell_of B7.out 0
    have b1 := cell_of B7.out 1
    have b2 := cell_of B7.out 2
    have b3 := cell_of B7.out 3
    have b4 := cell_of B7.out 4
    have b5 := cell_of B7.out 5
    have b6 := cell_of B7.out 6
    have b7 := cell_of B7.out 7
    have b8 := cell_of B7.out 8
    have b9 := cell_of B7.out 9
    have hla := heap_lt A7.out
    have hlb := heap_lt B7.out
    clear A0 A1 A2 A3 A4 A5 A6 B0 B1 B2 B3 B4 B5 B6 C0 C1 C2 C3 C4 C5 C6 T3 T4 T5 T6 hput hput' hrs hss
    have hca : (x == 0) = false ∨ (x = 0 ∧ (x' == 0) = false) ∨ (x = 0 ∧ x' = 0 ∧ (s.toList == s'.toList) = sm) := by
      by_cases h1 : x = 0
      · by_cases h2 : x' = 0
        · exact .inr (.inr ⟨h1, h2, Hsu.out h1 h2⟩)
        · exact .inr (.inl ⟨h1, beq_eq_false_iff_ne.2 h2⟩)
      · exact .inl (beq_eq_false_iff_ne.2 h1)
    clear Hsu
    cases sm <;> rcases hca with hx | ⟨rfl, hx⟩ | ⟨rfl, rfl, hx⟩
    all_goals
      go_wp2_with fail
      refine (hcopy.out _ C7.out).mono ?_
      clear hx
      rintro e w8 ⟨v, rfl, hrow, hc8⟩
      have T8 := box (heap_calm hc8 T7.out)
      have hc8' := box hc8
      have A8 := box (heap_calm hc8 A7.out)
      have B8 := box (heap_calm hc8 B7.out)
      have C8 := box (C7.out.trans hc8)
      clear hc8 a0 a1 a2 a3 a4 a5 a6 a7 a8 a9 b0 b1 b2 b3 b4 b5 b6 b7 b8 b9 hla hlb
      have a0 := cell_of A8.out 0
      have a1 := cell_of A8.out 1
      have a2 := cell_of A8.out 2
      have a3 := cell_of A8.out 3
      have a4 := cell_of A8.out 4
      have a5 := cell_of A8.out 5
      have a6 := cell_of A8.out 6
      have a7 := cell_of A8.out 7
      have a8 := cell_of A8.out 8
      have a9 := cell_of A8.out 9
      have b0 := cell_of B8.out 0
      have b1 := cell_of B8.out 1
      have b2 := cell_of B8.out 2
      have b3 := cell_of B8.out 3
      have b4 := cell_of B8.out 4
      have b5 := cell_of B8.out 5
      have b6 := cell_of B8.out 6
      have b7 := cell_of B8.out 7
      have b8 := cell_of B8.out 8
      have b9 := cell_of B8.out 9
      have hla := heap_lt A8.out
      have hlb := heap_lt B8.out
      obtain ⟨va, vcap, rfl⟩ : ∃ a c, v = .slice a m.keys.length c := by
        rcases hrow.2 with ⟨rfl, h0⟩ | ⟨g, cap, cur, rfl, _⟩
        · exact ⟨none, 0, by rw [h0]⟩
        · exact ⟨_, _, rfl⟩
      have R8 := box hrow
      clear hrow
      go_upto_region 12 with (fail)
      have N9 := box (heap_new w8 (.cells (msgA m (.slice va m.keys.length vcap)) 33))
      have K9 := box ((Calm.refl w8).alloc (.cells (msgA m (.slice va m.keys.length vcap)) 33))
      have R9 := box (R8.out.alloc (.cells (msgA m (.slice va m.keys.length vcap)) 33))
      have hg8 := box (fun g e => (R8.out.lt g e))
      obtain ⟨w9, hw9⟩ : ∃ X, w8.alloc (.cells (msgA m (.slice va m.keys.length vcap)) 33) = X := ⟨_, rfl⟩
      rw [hw9] at N9 K9 R9
      rw [hw9]
      clear hw9
      have hc9 := K9.out
      have T9 := box (heap_calm hc9 T8.out)
      have A9 := box (heap_calm hc9 A8.out)
      have B9 := box (heap_calm hc9 B8.out)
      have C9 := box (C8.out.trans hc9)
      clear hc9 a0 a1 a2 a3 a4 a5 a6 a7 a8 a9 b0 b1 b2 b3 b4 b5 b6 b7 b8 b9 hla hlb
      have a0 := cell_of A9.out 0
      have a1 := cell_of A9.out 1
      have a2 := cell_of A9.out 2
      have a3 := cell_of A9.out 3
      have a4 := cell_of A9.out 4
      have a5 := cell_of A9.out 5
      have a6 := cell_of A9.out 6
      have a7 := cell_of A9.out 7
      have a8 := cell_of A9.out 8
      have a9 := cell_of A9.out 9
      have b0 := cell_of B9.out 0
      have b1 := cell_of B9.out 1
      have b2 := cell_of B9.out 2
      have b3 := cell_of B9.out 3
      have b4 := cell_of B9.out 4
      have b5 := cell_of B9.out 5
      have b6 := cell_of B9.out 6
      have b7 := cell_of B9.out 7
      have b8 := cell_of B9.out 8
      have b9 := cell_of B9.out 9
      have hla := heap_lt A9.out
      have hlb := heap_lt B9.out
      have hq : w8.heap.size < w9.heap.size := heap_lt N9.out
      have h7 : w7.heap.size ≤ w8.heap.size := hc8'.out.size
      have c0 := cell_of N9.out 0
      have c1 := cell_of N9.out 1
      have c2 := cell_of N9.out 2
      have c3 := cell_of N9.out 3
      have c4 := cell_of N9.out 4
      have c5 := cell_of N9.out 5
      have c6 := cell_of N9.out 6
      have c7 := cell_of N9.out 7
      have c8 := cell_of N9.out 8
      have c9 := cell_of N9.out 9
      have hlc := heap_lt N9.out
      by_cases hk0 : m.keys.length = 0
      · have hke : m.keys = [] := List.eq_nil_of_length_eq_zero hk0
        have Hk0 := box hk0
        clear hk0
        go_wp2_with fail
        refine (hfill.out _).mono ?_
        by_cases hn : 3 ≤ n ∧ n ≤ 1024
        · obtain ⟨hn3, hn4⟩ := hn
          rw [if_pos ⟨hn3, hn4⟩]
          rintro e w12 ⟨rfl, hc12⟩
          have T12 := box (heap_calm hc12 T9.out)
          have C12 := box (C9.out.trans hc12)
          clear hc12
          obtain ⟨k, rfl⟩ : ∃ k : Nat, n = k := ⟨n.toNat, by omega⟩
          rw [Int.toNat_natCast]
          have hG := box (Get_fill tb k (by omega) (by omega))
          have hx1 : (fillB k).size = k := fill_size k (by omega)
          have hz1 := zerosB_size k
          obtain ⟨x, hx⟩ : ∃ x, fillB k = x := ⟨_, rfl⟩
          obtain ⟨z, hz⟩ : ∃ z, zerosB k = z := ⟨_, rfl⟩
          rw [hx] at hG hx1
          rw [hz] at hG hz1
          rw [hx]
          clear hx hz
          go_wp2_with fail
          refine (hG.out _ T12.out).mono ?_
          rintro e w13 ⟨kv, rfl, hst, hc13⟩
          obtain ⟨ya, ycap, rfl, _⟩ := hst.uni
          have C13 := box (C12.out.trans hc13)
          clear hst hc13
          go_wp2_with fail
          go_ret
          exact ⟨rfl, C13.out.alloc _⟩
        · rw [if_neg hn]
          rintro e w12 ⟨rfl, hc12⟩
          have C12 := box (C9.out.trans hc12)
          clear hc12
          have hn' : n < 3 ∨ (3 ≤ n ∧ 1024 < n) := by omega
          clear hn
          rcases hn' with h1 | ⟨h1, h2⟩
          all_goals
            go_wp2_with fail
            go_ret
            exact ⟨rfl, C12.out⟩
      · have hke : ¬ m.keys = [] := fun e => hk0 (by rw [e]; rfl)
        obtain ⟨g, rfl⟩ : ∃ g, va = some ⟨g, 0, none⟩ := by
          rcases R9.out.2 with ⟨e, h0⟩ | ⟨g, cap, cur, e, _⟩
          · exact absurd h0 hk0
          · cases e; exact ⟨g, rfl⟩
        have hgl := hg8.out g rfl
        obtain ⟨hg1, hg2⟩ := hgl
        have hpos : 0 < m.keys.length := by omega
        have cg := R9.out.cellAt 0 (by omega)
        have fg := R9.out.frozenAt 0
        rw [List.getElem?_map, List.getElem?_eq_getElem hpos] at cg
        simp only [Option.map_some] at cg
        obtain ⟨s0, hs0⟩ : ∃ s, m.keys[0] = s := ⟨_, rfl⟩
        rw [hs0] at cg
        have hsz : s0.size ≤ 100 := by rw [← hs0]; exact Hsm.out.1.2.2.2.2 _ (List.getElem_mem hpos)
        have hgz : g < w9.heap.size := by omega
        have hl0 : (0 : Int) < m.keys.length := by omega
        have hne1 : ¬ g = W.heap.size := by have := heap_lt A7.out; omega
        have S9 := box (strs_own R9.out)
        have Hset := box (show StrsAt (w9.setCell ⟨g, 0, none⟩ (.string (s0 ++ ⟨#[120]⟩))) (.slice (some ⟨g, 0, none⟩) m.keys.length vcap) (m.keys.set 0 (s0 ++ ⟨#[120]⟩)) from by
          have h2 := (R9.out.stored 0 (.string (s0 ++ ⟨#[120]⟩))).1
          rw [← List.map_set] at h2
          have h3 := strs_own (l := m.keys.set 0 (s0 ++ ⟨#[120]⟩)) (by rw [List.length_set]; exact h2)
          exact h3)
        have Ka := box (show StrsAt (w9.setCell ⟨g, 0, none⟩ (.string (s0 ++ ⟨#[120]⟩))) (.slice ka m.keys.length kcap) m.keys from strs_keep (Sa.out.calm C9.out) ((Keeps.refl (fun b => b = g) w9).setCell (p := ⟨g, 0, none⟩) (.inl rfl) _) (fun a n c e hn hf => by
          have h1 := strs_lt' Sa.out a n c e hn
          have h2 := C7.out.size
          omega))
        have A10 := box ((heap_set_other (b' := g) (fun e => by have := heap_lt A7.out; omega) 0 (.string (s0 ++ ⟨#[120]⟩))).trans A9.out)
        have N10 := box ((heap_set_other (b' := g) (fun e => by omega) 0 (.string (s0 ++ ⟨#[120]⟩))).trans N9.out)
        have C10 := box (calm_setCell C9.out (p := ⟨g, 0, none⟩) (by have := C7.out.size; simp only; omega) (.string (s0 ++ ⟨#[120]⟩)))
        have T10 := box ((heap_set_other (b' := g) (fun e => by have := heap_lt T7.out; omega) 0 (.string (s0 ++ ⟨#[120]⟩))).trans T9.out)
        go_upto_region 14 with (fail)
        obtain ⟨w10, hw10⟩ : ∃ X, w9.setCell ⟨g, 0, none⟩ (.string (s0 ++ ⟨#[120]⟩)) = X := ⟨_, rfl⟩
        rw [hw10] at Hset Ka A10 N10 C10 T10
        rw [hw10]
        clear hw10 c0 c1 c2 c3 c4 c5 c6 c7 c8 c9 hlc a0 a1 a2 a3 a4 a5 a6 a7 a8 a9 b0 b1 b2 b3 b4 b5 b6 b7 b8 b9 hla hlb cg fg
        have c0 := cell_of N10.out 0
        have c1 := cell_of N10.out 1
        have c2 := cell_of N10.out 2
        have c3 := cell_of N10.out 3
        have c4 := cell_of N10.out 4
        have c5 := cell_of N10.out 5
        have c6 := cell_of N10.out 6
        have c7 := cell_of N10.out 7
        have c8 := cell_of N10.out 8
        have c9 := cell_of N10.out 9
        have hlc := heap_lt N10.out
        have a0 := cell_of A10.out 0
        have a1 := cell_of A10.out 1
        have a2 := cell_of A10.out 2
        have a3 := cell_of A10.out 3
        have a4 := cell_of A10.out 4
        have a5 := cell_of A10.out 5
        have a6 := cell_of A10.out 6
        have a7 := cell_of A10.out 7
        have a8 := cell_of A10.out 8
        have a9 := cell_of A10.out 9
        have hla := heap_lt A10.out
        have hsx := box (Same_any ⟨m.kind, m.queue, m.due, m.retry, m.ref, m.born, m.topic, m.tag, m.body, m.keys.set 0 (s0 ++ ⟨#[120]⟩)⟩ m (.slice (some ⟨g, 0, none⟩) m.keys.length vcap) (.slice ka m.keys.length kcap) w10 Hset.out Ka.out (by rw [List.length_set]; exact Hl.out) Hl.out)
        rw [decide_eq_false (fun e => by
          have h1 := congrArg MsgS.keys e
          simp only at h1
          have h2 := congrArg (fun l => l[0]?) h1
          simp only [List.getElem?_set_self hpos, List.getElem?_eq_getElem hpos, hs0, Option.some.injEq] at h2
          exact longer s0 h2)] at hsx
        clear hs0
        go_wp2_with fail
        refine hsx.out.mono ?_
        rintro e w11 ⟨rfl, hc11⟩
        have T11 := box (heap_calm hc11 T10.out)
        have C11 := box (C10.out.trans hc11)
        clear hc11 c0 c1 c2 c3 c4 c5 c6 c7 c8 c9 hlc a0 a1 a2 a3 a4 a5 a6 a7 a8 a9 hla
        go_wp2_with fail
        refine (hfill.out _).mono ?_
        by_cases hn : 3 ≤ n ∧ n ≤ 1024
        · obtain ⟨hn3, hn4⟩ := hn
          rw [if_pos ⟨hn3, hn4⟩]
          rintro e w12 ⟨rfl, hc12⟩
          have T12 := box (heap_calm hc12 T11.out)
          have C12 := box (C11.out.trans hc12)
          clear hc12
          obtain ⟨k, rfl⟩ : ∃ k : Nat, n = k := ⟨n.toNat, by omega⟩
          rw [Int.toNat_natCast]
          have hG := box (Get_fill tb k (by omega) (by omega))
          have hx1 : (fillB k).size = k := fill_size k (by omega)
          have hz1 := zerosB_size k
          obtain ⟨x, hx⟩ : ∃ x, fillB k = x := ⟨_, rfl⟩
          obtain ⟨z, hz⟩ : ∃ z, zerosB k = z := ⟨_, rfl⟩
          rw [hx] at hG hx1
          rw [hz] at hG hz1
          rw [hx]
          clear hx hz
          go_wp2_with fail
          refine (hG.out _ T12.out).mono ?_
          rintro e w13 ⟨kv, rfl, hst, hc13⟩
          obtain ⟨ya, ycap, rfl, _⟩ := hst.uni
          have C13 := box (C12.out.trans hc13)
          clear hst hc13
          go_wp2_with fail
          go_ret
          exact ⟨rfl, C13.out.alloc _⟩
        · rw [if_neg hn]
          rintro e w12 ⟨rfl, hc12⟩
          have C12 := box (C11.out.trans hc12)
          clear hc12
          have hn' : n < 3 ∨ (3 ≤ n ∧ 1024 < n) := by omega
          clear hn
          rcases hn' with h1 | ⟨h1, h2⟩
          all_goals
            go_wp2_with fail
            go_ret
            exact ⟨rfl, C12.out⟩

theorem own : ownKnob Try.prog.godebug = none := by kernel_rfl
theorem laidOut : laidOutB Try.prog = true := by kernel_rfl
set_option maxRecDepth 100000 in
set_option linter.unusedVariables false in
theorem lifted (os : Os) (started : os.Started) (H : Type) (enc : TypeId × Value → H) :
    ReturnsInHanded {} Try.checked os 7 .any (Rows.recSameSpec.pre6 enc Try.prog Try.f7 Rows.recSameRow.domain false) (Rows.recSameSpec.post enc Try.prog Try.f7 false true false false) := by
  refine returnsInHanded_of_change_sized (C := Try.checked) own started (by kernel_rfl) Try.func7
    (ChangeSpec.witness6 (enc := enc) (C := Try.checked) false ⟨#[], #[.agg #[.int .i64 0, .int .i64 0, .int .i64 0, .int .i64 0, .int .i64 0, .int .i64 0, .string ⟨#[]⟩, .string ⟨#[]⟩, .string ⟨#[]⟩, .slice none 0 0], .agg #[.int .i64 0, .int .i64 0, .int .i64 0, .int .i64 0, .int .i64 0, .int .i64 0, .string ⟨#[]⟩, .string ⟨#[]⟩, .string ⟨#[]⟩, .slice none 0 0], .int .i64 0], []⟩ 8 (by kernel_rfl) (by kernel_rfl) (by kernel_rfl) (by kernel_rfl)) ?_
  intro W base args ds gs before hval0 hW hcnd hsz0 _
  have hsz : (DataW.weightsEach Try.prog (Try.f7.params.toList ++ []) (ds ++ gs)).all (· ≤ reachBytes) = true := hsz0
  clear hsz0
  have hval : ∀ (j : Nat) t v, Try.f7.params[j]? = some t → args[j]? = some v → Value.okWide Try.prog W .any base t v := hval0
  have hW' := hW
  obtain ⟨p, q, hA0, hV, rfl, hfz, hnd⟩ := hW
  have hA : DataW.TrodAll enc Try.prog W 0 (fun _ => true) true Try.f7.params.toList args.toList ds p := hA0
  rw [Try.params7] at hA hval hsz
  obtain ⟨v0, vs0, d0, ds0, p0, q0, hargs, rfl, rfl, h0, r0'⟩ := trodAll_cons hA
  obtain ⟨v1, vs1, d1, ds1, p1, q1, rfl, rfl, rfl, h1, r1'⟩ := trodAll_cons r0'
  obtain ⟨v2, vs2, d2, ds2, p2, q2, rfl, rfl, rfl, h2, r2'⟩ := trodAll_cons r1'
  obtain ⟨rfl, rfl, rfl⟩ := trodAll_nil r2'
  obtain rfl : args = #[v0, v1, v2] := by cases args; simp_all
  obtain ⟨rfl, rfl⟩ := trodVars_none hV
  clear hA0 hval0
  have wt0 := fun n hn => (by simpa using List.all_eq_true.1 hsz n (DataW.weights_mem_each (j := 0) rfl rfl n hn) : n ≤ reachBytes)
  have wt1 := fun n hn => (by simpa using List.all_eq_true.1 hsz n (DataW.weights_mem_each (j := 1) rfl rfl n hn) : n ≤ reachBytes)
  have wt2 := fun n hn => (by simpa using List.all_eq_true.1 hsz n (DataW.weights_mem_each (j := 2) rfl rfl n hn) : n ≤ reachBytes)
  have hlt : ∀ x ∈ p0 ++ (p1 ++ (p2 ++ [])), x.block < W.heap.size := fun x hx => by have := hW'.lt x (by simpa using hx); simpa using this
  obtain ⟨y0, e0, r0⟩ := msg_arg (struct_shape Try.underlying33 (hval 0 33 v0 rfl rfl)) ((opens_msg).arg h0)
  subst e0
  obtain ⟨y1, e1, r1⟩ := msg_arg (struct_shape Try.underlying33 (hval 1 33 v1 rfl rfl)) ((opens_msg).arg h1)
  subst e1
  obtain ⟨a2, e2, _, _, w2⟩ := open_int Try.underlying3 (hval 2 3 v2 rfl rfl) h2
  subst e2
  refine (walk W y0 r0 y1 r1 a2 w2).mono fun e W' ⟨he, hg⟩ => ?_
  subst he
  refine ⟨_, rfl, _, _, _, [] ++ [], p0 ++ (p1 ++ (p2 ++ [])), [], hW', ?_, ?_, ?_, hg.frame _, fun h => by cases h⟩
  · exact trodAll_mk1 (shut_bool Try.underlying4 true)
  · exact trodAll_cons_mk (Below.trod laidOut (by kernel_rfl) (of_decide_eq_true (by kernel_rfl)) h0 hg (fun x hx => hlt x (by simp [hx]))) (trodAll_cons_mk (Below.trod laidOut (by kernel_rfl) (of_decide_eq_true (by kernel_rfl)) h1 hg (fun x hx => hlt x (by simp [hx]))) (trodAll_cons_mk (Below.trod laidOut (by kernel_rfl) (of_decide_eq_true (by kernel_rfl)) h2 hg (fun x hx => hlt x (by simp [hx]))) (trodAll_mk0)))
  · exact rfl

theorem over : Rows.recSameRow.holds Try.pinned (OpenSpec.ofChange Rows.recSameSpec) :=
  OpenClaim.holds_of_wide 7 Try.f7 rfl rfl rfl rfl rfl rfl rfl ⟨rfl, rfl, rfl, rfl, rfl⟩ rfl rfl rfl rfl rfl (by kernel_rfl) Try.func7 (by kernel_rfl)
    (of_decide_eq_true (by kernel_rfl)) (by unfold Func.isWrapper; first | (rw [if_pos (by decide +kernel)]; kernel_rfl) | (rw [if_neg (by decide +kernel)]; exact ⟨rfl, rfl⟩))
    (fun os started H enc _ => lifted os started H enc)

theorem proved : Rows.RecSameSaid := over
#print axioms proved
end Go.Proofs.Ytofffmnkoelifaa.rsame
