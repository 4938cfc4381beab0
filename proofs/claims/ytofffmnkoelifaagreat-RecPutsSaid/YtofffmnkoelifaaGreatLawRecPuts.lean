/- RecPuts: any record is right, and has bytes, just as the document says, or none, told so, and comes back from them, whatever stands behind. No condition. -/
import Derived.Test.YtofffmnkoelifaaGreatRows
import Derived.WalkKit
import Derived.ProofKit
import Derived.OpenShut
import Derived.Handy
import Derived.Deep.LoopGhost
import Derived.Lib.Hide
import Derived.Lib.Strings
import Derived.SizedLaws
import Derived.Deep.Slices
import Derived.Shelf.SlIter.Nil
import Derived.Ground.GgzProg
import Derived.Shelf.SortM.Plain
import Derived.Shelf.SortM.SortNone
import Derived.Ground.SlgmProg
import Derived.Test.YtofffmnkoelifaaGreatProg
import Derived.Shelf.Strings.Builder1
import Derived.Shelf.Strings.Builder2
import Derived.Shelf.Small.Bits
import Derived.Shelf.Small.Wraps
import Derived.Shelf.Strings.BuilderF
import Derived.Shelf.Strings.BuilderK
import Derived.Shelf.Strings.Builder2Cap
import Derived.Shelf.Strconv.Itoa0
import Derived.Shelf.Sort.Plain
import Derived.Shelf.GgClosure.StringsIndexFunc
import Derived.Ground.GgwProg
import Derived.Shelf.GgClosure.StringsIndexFuncTop
import Derived.Shelf.GgClosure.StringsRunes
import Derived.Shelf.Strings.Prefix
import Derived.Shelf.Bits.Mul64
import Derived.Shelf.Strings.Repeat
import Derived.Shelf.Strings.BuilderCap
import Derived.Shelf.Slices.Equal
import Derived.Ground.Names2Prog
import Derived.Shelf.Slices.Clone
import Derived.Shelf.Slices.CompactS
import Derived.Shelf.Slices.Cells
import Derived.Shelf.Slices.In.SortNone
import Derived.Shelf.Slices.Empties2
import Derived.Ground.SlgnProg
import Derived.Shelf.SlicesE.Equal
import Derived.Shelf.SlicesE.Compact
import Derived.Ground.SlgfProg
import Derived.Shelf.SlicesE.IndexFunc
import Derived.RangeFuncBox
import Derived.RangeFuncLeaves
import Derived.Shelf.Abstract
import Derived.OwnWalkIn
import Derived.TacticsInMore
import Derived.LoopNIn
import Derived.LoopIn
import Derived.Maps.AppendAt
import Derived.Lib.SlicesCompact
import Derived.Deep.QuietTactic
import Derived.BigQuiet
import Derived.Laws.ResultCell
import Derived.Laws.Rows
import Derived.Lib.ConvBytes
import Derived.Lib.AppendZeros
import Derived.Lib.AppendZerosOnto
import Derived.Lib.LazyBuf
import Derived.Laws.MakeOwn
import Derived.Lib.Builder
import Derived.Lib.AppendStr
import Derived.Deep.RegionHeld3
import Derived.Laws.BitsLemmas
import Derived.Laws.StructEq
import Derived.Laws.Cover3
import Derived.WalkLawsBesides
import Derived.Outline
import Derived.Deep.CutRange
import Derived.Test.YtofffmnkoelifaaGreatPk18
namespace Go.Proofs.YtofffmnkoelifaaGreat.rputs
open Go.ChangeShapes Go.WideShapes Go.ChangeAt Go.RowKit Go.Shelf
open Go.Proofs.YtofffmnkoelifaaGreat.nm Go.Proofs.YtofffmnkoelifaaGreat.vs Go.Proofs.YtofffmnkoelifaaGreat.oc Go.Proofs.YtofffmnkoelifaaGreat.cr Go.Proofs.YtofffmnkoelifaaGreat.rc

theorem awake_any (W : World) : Calls Tryz.prog 4 #[] W fun e w' => e = .returned (.bool true) ∧ Calm W w' := by
  have hf := box (Fill_any 3 W)
  rw [if_pos (by decide), show fillB (3 : Int).toNat = ⟨#[90, 0, 3]⟩ by decide] at hf
  go_enter Tryz.func4, Tryz.ntmps4
  go_wp2_with fail
  refine hf.out.mono ?_
  rintro e w1 ⟨rfl, hc⟩
  have C := box hc
  go_wp2_with fail
  go_ret
  exact ⟨rfl, C.out⟩
/-- Without a table there are no bytes. -/
theorem Put_nil (v : Value) (w : World) (hv : ∃ cs, v = .agg cs ∧ cs.size = 10) : Calls Tryz.prog 10 #[.pointer none, v] w fun e w' => e = .returned (.tuple #[.string ⟨#[]⟩, .int .i64 1]) ∧ Calm w w' := by
  obtain ⟨cs, rfl, hz⟩ := hv
  go_enter Tryz.func10, Tryz.ntmps10
  go_wp2_with fail
  go_ret2
  exact ⟨rfl, (Calm.refl w).alloc _⟩
theorem put_size {m : MsgS} (h : (putS RightP m).2 = 0) : 3 ≤ (putS RightP m).1.size ∧ (putS RightP m).1.size ≤ 1024 := by
  unfold putS at h ⊢
  by_cases hp : RightP m
  · rw [if_neg (fun hh => hh hp)] at h ⊢
    by_cases hk : m.kind = 0
    · rw [if_pos hk] at h ⊢
      by_cases hz : 3 ≤ m.body.size ∧ m.body.size ≤ 1024
      · rw [if_pos hz]
        have hf : (fillB m.body.size).size = m.body.size := by show (_ : List UInt8).toArray.size = _; simp [low_length]; omega
        simp only [hf]
        exact hz
      · rw [if_neg hz] at h; simp at h
    · rw [if_neg hk]
      have F := right_fits m hp hk
      have hl := inside_length F
      have hsl := seal_length (insideL m)
      have hsz : (recB m).size = 3 + (sealL (insideL m)).length := by show (_ : List UInt8).toArray.size = _; simp [low_length]; omega
      simp only [hsz]
      omega
  · rw [if_pos hp] at h; simp at h
theorem put_none {m : MsgS} (h : (putS RightP m).2 ≠ 0) : putS RightP m = (⟨#[]⟩, 1) := by
  unfold putS at h ⊢
  by_cases hp : RightP m
  · rw [if_neg (fun hh => hh hp)] at h ⊢
    by_cases hk : m.kind = 0
    · rw [if_pos hk] at h ⊢
      by_cases hz : 3 ≤ m.body.size ∧ m.body.size ≤ 1024
      · rw [if_pos hz] at h; exact absurd rfl h
      · rw [if_neg hz]
    · rw [if_neg hk] at h; exact absurd rfl h
  · rw [if_pos hp]
theorem put_right {m : MsgS} (h : (putS RightP m).2 = 0) : RightP m := by
  unfold putS at h
  by_cases hp : RightP m
  · exact hp
  · rw [if_pos hp] at h; cases h
set_option maxRecDepth 100000 in
set_option maxHeartbeats 16000000 in
theorem walk (W : World) (y : MsgS × Value) (r : MsgIn W y) (z : ByteArray) (hz : z.size ≤ maxLen) :
    Calls Tryz.prog 3 #[.agg (msgA y.1 y.2), .string z] W fun e W' => e = .returned (.bool true) ∧ Calm W W' := by
  obtain ⟨m, kv⟩ := y
  obtain ⟨hr, z1, z2, z3, zk, zr⟩ := r
  simp only at hr z1 z2 z3
  obtain ⟨hst, hkz⟩ := RowsAt.strs hr
  obtain ⟨ka, kcap, rfl, _⟩ := hst.uni
  have Sa := box hst
  have Za := box hkz
  have Wa := box (show m.body.size ≤ maxLen ∧ m.topic.size ≤ maxLen ∧ m.tag.size ≤ maxLen ∧ m.keys.length ≤ maxLen from ⟨z3, z1, z2, hkz.2⟩)
  unfold maxLen at hz
  clear hr hst hkz z1 z2 z3 zk zr
  obtain ⟨W1, hW1⟩ : ∃ W1, W.alloc (.cells (msgA m (.slice ka m.keys.length kcap)) 24) = W1 := ⟨_, rfl⟩
  have A0 := box (show W1.heap[W.heap.size]? = some (.cells (msgA m (.slice ka m.keys.length kcap)) 24 (0, 0)) by rw [← hW1]; exact heap_new W _)
  have C0 := box (show Calm W W1 by rw [← hW1]; exact (Calm.refl W).alloc _)
  have a0 := cell_of A0.out 0
  have a1 := cell_of A0.out 1
  have a2 := cell_of A0.out 2
  have a3 := cell_of A0.out 3
  have a4 := cell_of A0.out 4
  have a5 := cell_of A0.out 5
  have a6 := cell_of A0.out 6
  have a7 := cell_of A0.out 7
  have a8 := cell_of A0.out 8
  have a9 := cell_of A0.out 9
  have hla := heap_lt A0.out
  go_enter Tryz.func3, Tryz.ntmps3
  go_wp2_with fail
  clear hW1
  refine (awake_any _).mono ?_
  rintro e w1 ⟨rfl, hc1⟩
  have A1 := box (heap_calm hc1 A0.out)
  have C1 := box (C0.out.trans hc1)
  clear hc1 a0 a1 a2 a3 a4 a5 a6 a7 a8 a9 hla
  have a0 := cell_of A1.out 0
  have a1 := cell_of A1.out 1
  have a2 := cell_of A1.out 2
  have a3 := cell_of A1.out 3
  have a4 := cell_of A1.out 4
  have a5 := cell_of A1.out 5
  have a6 := cell_of A1.out 6
  have a7 := cell_of A1.out 7
  have a8 := cell_of A1.out 8
  have a9 := cell_of A1.out 9
  have hla := heap_lt A1.out
  have G1 := box (heap_new w1 (.cells (msgA m (.slice ka m.keys.length kcap)) 24))
  have G2 := box ((Calm.refl w1).alloc (.cells (msgA m (.slice ka m.keys.length kcap)) 24))
  go_wp2_with fail
  have hgr := Great_any w1.heap.size m (.slice ka m.keys.length kcap) _ G1.out (Sa.out.calm (C1.out.trans G2.out)) Za.out.1 Wa.out
  refine hgr.mono ?_
  clear hgr
  rintro e w2 ⟨gr, rfl, hc2, hsm⟩
  have hc2 := G2.out.trans hc2
  have A2 := box (heap_calm hc2 A1.out)
  have C2 := box (C1.out.trans hc2)
  clear hc2 a0 a1 a2 a3 a4 a5 a6 a7 a8 a9 hla
  have a0 := cell_of A2.out 0
  have a1 := cell_of A2.out 1
  have a2 := cell_of A2.out 2
  have a3 := cell_of A2.out 3
  have a4 := cell_of A2.out 4
  have a5 := cell_of A2.out 5
  have a6 := cell_of A2.out 6
  have a7 := cell_of A2.out 7
  have a8 := cell_of A2.out 8
  have a9 := cell_of A2.out 9
  have hla := heap_lt A2.out
  cases gr with
  | true =>
    go_wp2_with fail
    go_ret
    exact ⟨rfl, C2.out⟩
  | false =>
    by_cases hz3 : 300 < z.size
    · go_wp2_with fail
      go_ret
      exact ⟨rfl, C2.out⟩
    · have Hsm := box (hsm rfl)
      clear hsm G1 G2
      have ha1 : m.keys.length ≤ 1000000 := by have := Hsm.out.2.2.2.1; omega
      have ha2 : m.body.size ≤ 140737488355328 := by have := Hsm.out.1; omega
      have hput := box (fun (b : Nat) (w : World) (hC : Calm W w) (ht : TabAt w b 1024) => Put_any b m (.slice ka m.keys.length kcap) w ht (Sa.out.calm hC) Za.out.1 ha1 ha2)
      have hrput := box (fun (hR : RightP m) (w : World) (hC : Calm W w) => rPut_any m (.slice ka m.keys.length kcap) w (Sa.out.calm hC) hR)
      have hright := box (fun (w : World) (hC : Calm W w) => Right_all m (.slice ka m.keys.length kcap) w (Sa.out.calm hC) Za.out.1 ha1 ha2)
      have hrright := box (fun (w : World) (hC : Calm W w) => rRight_any m (.slice ka m.keys.length kcap) w (Sa.out.calm hC) Za.out.1 ⟨Wa.out.2.1, Wa.out.2.2.1, Wa.out.1⟩)
      have hss := box (fun (v : Value) (w : World) (hC : Calm W w) (hx : StrsAt w v m.keys) => (show Calls Tryz.prog 13 #[.agg (msgA m v), .agg (msgA m (.slice ka m.keys.length kcap))] w fun e w' => e = .returned (.bool true) ∧ Calm w w' from by
        have := Same_any m m v (.slice ka m.keys.length kcap) w hx (Sa.out.calm hC) ha1 ha1
        rwa [decide_eq_true rfl] at this))
      have hrs := box (fun (v : Value) (w : World) (hC : Calm W w) (hx : StrsAt w v m.keys) => (show Calls Tryz.prog 12 #[.agg (msgA m v), .agg (msgA m (.slice ka m.keys.length kcap))] w fun e w' => e = .returned (.bool true) ∧ Calm w w' from by
        have := rSame_any m m v (.slice ka m.keys.length kcap) w hx (Sa.out.calm hC) ha1 ha1
        rwa [decide_eq_true rfl] at this))
      have hcopy := box (fun (w : World) (hC : Calm W w) => Copy_any m (.slice ka m.keys.length kcap) w (Sa.out.calm hC) ha1)
      have hget := box (fun (h : (putS RightP m).2 = 0) (b : Nat) (w : World) (ht : TabAt w b 1024) => (show Calls Tryz.prog 11 #[.pointer (some ⟨b, 0, none⟩), .string ((putS RightP m).1 ++ z)] w (GetIs m ((putS RightP m).1.size : Int) 0 w) from by
        have h1 := put_get right_fits right_zero h z.data.toList
        rw [show (⟨((putS RightP m).1.data.toList ++ z.data.toList).toArray⟩ : ByteArray) = (putS RightP m).1 ++ z from ba_ext (by rw [append_toList])] at h1
        have h2 := put_size h
        have := Get_any b ((putS RightP m).1 ++ z) w ht (by rw [ByteArray.size_append]; omega)
        rwa [h1] at this))
      have hnone := box (put_none (m := m))
      have hrt := box (put_right (m := m))
      have hsz := box (put_size (m := m))
      have hno := box (fun (h : ¬ RightP m) => show putS RightP m = (⟨#[]⟩, 1) from by unfold putS; rw [if_pos h])
      obtain ⟨⟨s, x⟩, hp⟩ : ∃ r, putS RightP m = r := ⟨_, rfl⟩
      rw [hp] at hput hrput hget hnone hrt hsz hno
      simp only at hput hrput hget hnone hrt hsz hno
      clear hp ha1 ha2
      go_wp2_with fail
      refine (cr.New_any _).mono ?_
      rintro e w3 ⟨tb, rfl, htab, htb, hc3⟩
      have T3 := box htab
      clear htab htb
      have A3 := box (heap_calm hc3 A2.out)
      have C3 := box (C2.out.trans hc3)
      clear hc3 a0 a1 a2 a3 a4 a5 a6 a7 a8 a9 hla
      have a0 := cell_of A3.out 0
      have a1 := cell_of A3.out 1
      have a2 := cell_of A3.out 2
      have a3 := cell_of A3.out 3
      have a4 := cell_of A3.out 4
      have a5 := cell_of A3.out 5
      have a6 := cell_of A3.out 6
      have a7 := cell_of A3.out 7
      have a8 := cell_of A3.out 8
      have a9 := cell_of A3.out 9
      have hla := heap_lt A3.out
      by_cases hR : RightP m
      · rw [decide_eq_true hR] at hright hrright
        have hrput := box (fun w hC => hrput.out hR w hC)
        go_wp2_with fail
        refine (hrright.out _ C3.out).mono ?_
        rintro e w4 ⟨rfl, hc4⟩
        have T4 := box (heap_calm hc4 T3.out)
        have A4 := box (heap_calm hc4 A3.out)
        have C4 := box (C3.out.trans hc4)
        clear hc4 a0 a1 a2 a3 a4 a5 a6 a7 a8 a9 hla
        have a0 := cell_of A4.out 0
        have a1 := cell_of A4.out 1
        have a2 := cell_of A4.out 2
        have a3 := cell_of A4.out 3
        have a4 := cell_of A4.out 4
        have a5 := cell_of A4.out 5
        have a6 := cell_of A4.out 6
        have a7 := cell_of A4.out 7
        have a8 := cell_of A4.out 8
        have a9 := cell_of A4.out 9
        have hla := heap_lt A4.out
        go_wp2_with fail
        refine (hright.out _ C4.out).mono ?_
        rintro e w5 ⟨rfl, hc5⟩
        have T5 := box (heap_calm hc5 T4.out)
        have A5 := box (heap_calm hc5 A4.out)
        have C5 := box (C4.out.trans hc5)
        clear hc5 a0 a1 a2 a3 a4 a5 a6 a7 a8 a9 hla
        have a0 := cell_of A5.out 0
        have a1 := cell_of A5.out 1
        have a2 := cell_of A5.out 2
        have a3 := cell_of A5.out 3
        have a4 := cell_of A5.out 4
        have a5 := cell_of A5.out 5
        have a6 := cell_of A5.out 6
        have a7 := cell_of A5.out 7
        have a8 := cell_of A5.out 8
        have a9 := cell_of A5.out 9
        have hla := heap_lt A5.out
        go_wp2_with fail
        refine (hrput.out _ C5.out).mono ?_
        rintro e w6 ⟨rfl, hc6⟩
        have T6 := box (heap_calm hc6 T5.out)
        have A6 := box (heap_calm hc6 A5.out)
        have C6 := box (C5.out.trans hc6)
        clear hc6 a0 a1 a2 a3 a4 a5 a6 a7 a8 a9 hla
        have a0 := cell_of A6.out 0
        have a1 := cell_of A6.out 1
        have a2 := cell_of A6.out 2
        have a3 := cell_of A6.out 3
        have a4 := cell_of A6.out 4
        have a5 := cell_of A6.out 5
        have a6 := cell_of A6.out 6
        have a7 := cell_of A6.out 7
        have a8 := cell_of A6.out 8
        have a9 := cell_of A6.out 9
        have hla := heap_lt A6.out
        go_wp2_with fail
        refine (hput.out tb _ C6.out T6.out).mono ?_
        rintro e w7 ⟨rfl, hc7⟩
        have T7 := box (heap_calm hc7 T6.out)
        have A7 := box (heap_calm hc7 A6.out)
        have C7 := box (C6.out.trans hc7)
        clear hc7 a0 a1 a2 a3 a4 a5 a6 a7 a8 a9 hla
        have a0 := cell_of A7.out 0
        have a1 := cell_of A7.out 1
        have a2 := cell_of A7.out 2
        have a3 := cell_of A7.out 3
        have a4 := cell_of A7.out 4
        have a5 := cell_of A7.out 5
        have a6 := cell_of A7.out 6
        have a7 := cell_of A7.out 7
        have a8 := cell_of A7.out 8
        have a9 := cell_of A7.out 9
        have hla := heap_lt A7.out
        clear A0 A1 A2 A3 A4 A5 A6 C0 C1 C2 C3 C4 C5 C6 T3 T4 T5 T6 hright hrright hrput hput
        by_cases hx : x = 0
        · subst hx
          obtain ⟨hz1, hz2⟩ := hsz.out rfl
          have hget2 := box (fun b w ht => hget.out rfl b w ht)
          clear hget
          have hse : (s.toList == []) = false := beq_eq_false_iff_ne.2 (fun e => by
            have h1 : s.size = 0 := by rw [← size_toList, ← Lib.toList_data, e]; rfl
            omega)
          have hse2 : s.toList.isEmpty = false := by rw [List.isEmpty_eq_false_iff]; exact beq_eq_false_iff_ne.1 hse
          clear hnone hsz hrt hno
          go_wp2_with fail
          refine (hget2.out tb _ T7.out).mono ?_
          rintro e w8 ⟨kx, rfl, hsx, hc8⟩
          obtain ⟨xa, xcap, rfl, _⟩ := hsx.uni
          have Sx := box hsx
          have A8 := box (heap_calm hc8 A7.out)
          have C8 := box (C7.out.trans hc8)
          clear hsx hc8 a0 a1 a2 a3 a4 a5 a6 a7 a8 a9 hla
          have a0 := cell_of A8.out 0
          have a1 := cell_of A8.out 1
          have a2 := cell_of A8.out 2
          have a3 := cell_of A8.out 3
          have a4 := cell_of A8.out 4
          have a5 := cell_of A8.out 5
          have a6 := cell_of A8.out 6
          have a7 := cell_of A8.out 7
          have a8 := cell_of A8.out 8
          have a9 := cell_of A8.out 9
          have hla := heap_lt A8.out
          have X8 := box (heap_new w8 (.cells (msgA m (.slice xa m.keys.length xcap)) 24))
          have Ca := box ((Calm.refl w8).alloc (.cells (msgA m (.slice xa m.keys.length xcap)) 24))
          have A9 := box (heap_calm Ca.out A8.out)
          have C9 := box (C8.out.trans Ca.out)
          have Sx9 := box (Sx.out.calm Ca.out)
          have hpn := box (fun (w : World) => Put_nil (.agg (msgA m (.slice ka m.keys.length kcap))) w ⟨_, rfl, rfl⟩)
          obtain ⟨w9, hw9⟩ : ∃ X, w8.alloc (.cells (msgA m (.slice xa m.keys.length xcap)) 24) = X := ⟨_, rfl⟩
          go_upto_region 18 with (fail)
          rw [hw9] at X8 Ca A9 C9 Sx9
          (try rw [hw9])
          clear hw9 a0 a1 a2 a3 a4 a5 a6 a7 a8 a9 hla Sx A8
          have a0 := cell_of A9.out 0
          have a1 := cell_of A9.out 1
          have a2 := cell_of A9.out 2
          have a3 := cell_of A9.out 3
          have a4 := cell_of A9.out 4
          have a5 := cell_of A9.out 5
          have a6 := cell_of A9.out 6
          have a7 := cell_of A9.out 7
          have a8 := cell_of A9.out 8
          have a9 := cell_of A9.out 9
          have hla := heap_lt A9.out
          go_wp2_with fail
          refine (hpn.out _).mono ?_
          rintro e w10 ⟨rfl, hb⟩
          have A10 := box (heap_calm hb A9.out)
          have X10 := box (heap_calm hb X8.out)
          have C10 := box (C9.out.trans hb)
          have Sx10 := box (Sx9.out.calm hb)
          clear hb a0 a1 a2 a3 a4 a5 a6 a7 a8 a9 hla
          go_upto_region 19 with (fail)
          refine wp_region_held_drew (S := fun w' => w'.cell? ⟨W.heap.size, 0, none⟩ = some (.int .i64 m.kind) ∧ w'.cell? ⟨W.heap.size, 1, none⟩ = some (.int .i64 m.queue) ∧ w'.cell? ⟨W.heap.size, 2, none⟩ = some (.int .i64 m.due) ∧ w'.cell? ⟨W.heap.size, 3, none⟩ = some (.int .i64 m.retry) ∧ w'.cell? ⟨W.heap.size, 4, none⟩ = some (.int .i64 m.ref) ∧ w'.cell? ⟨W.heap.size, 5, none⟩ = some (.int .i64 m.born) ∧ w'.cell? ⟨W.heap.size, 6, none⟩ = some (.string m.topic) ∧ w'.cell? ⟨W.heap.size, 7, none⟩ = some (.string m.tag) ∧ w'.cell? ⟨W.heap.size, 8, none⟩ = some (.string m.body) ∧ w'.cell? ⟨W.heap.size, 9, none⟩ = some (Value.slice ka m.keys.length kcap) ∧ w'.cell? ⟨w8.heap.size, 0, none⟩ = some (.int .i64 m.kind) ∧ w'.cell? ⟨w8.heap.size, 1, none⟩ = some (.int .i64 m.queue) ∧ w'.cell? ⟨w8.heap.size, 2, none⟩ = some (.int .i64 m.due) ∧ w'.cell? ⟨w8.heap.size, 3, none⟩ = some (.int .i64 m.retry) ∧ w'.cell? ⟨w8.heap.size, 4, none⟩ = some (.int .i64 m.ref) ∧ w'.cell? ⟨w8.heap.size, 5, none⟩ = some (.int .i64 m.born) ∧ w'.cell? ⟨w8.heap.size, 6, none⟩ = some (.string m.topic) ∧ w'.cell? ⟨w8.heap.size, 7, none⟩ = some (.string m.tag) ∧ w'.cell? ⟨w8.heap.size, 8, none⟩ = some (.string m.body) ∧ w'.cell? ⟨w8.heap.size, 9, none⟩ = some (Value.slice xa m.keys.length xcap)) (by kernel_rfl) ⟨cell_of A10.out 0, cell_of A10.out 1, cell_of A10.out 2, cell_of A10.out 3, cell_of A10.out 4, cell_of A10.out 5, cell_of A10.out 6, cell_of A10.out 7, cell_of A10.out 8, cell_of A10.out 9, cell_of X10.out 0, cell_of X10.out 1, cell_of X10.out 2, cell_of X10.out 3, cell_of X10.out 4, cell_of X10.out 5, cell_of X10.out 6, cell_of X10.out 7, cell_of X10.out 8, cell_of X10.out 9⟩ (fun hHeld => ?_)
          have A11 := box (show w10.drew.heap[W.heap.size]? = _ from A10.out)
          have X11 := box (show w10.drew.heap[w8.heap.size]? = _ from X10.out)
          have C11 := box (C10.out.drew)
          have Sx11 := box (show StrsAt w10.drew (.slice xa m.keys.length xcap) m.keys from Sx10.out.calm ((Calm.refl _).drew))
          ((refine' wpAnyH_take (i := 0) (v := _) rfl (by kernel_rfl) (by kernel_rfl) (by kernel_rfl) (fun _ _ _ h => h) (Or.inl ⟨by rfl, ?hy1⟩) (by assumption) ?rest1; (case hy1 => (intro w hSw; (try dsimp only at hSw); go_simp <;> with_reducible rfl)); simp only [List.getElem_toArray, List.getElem_cons_succ, List.getElem_cons_zero, Act.put, List.setIfInBounds_toArray, List.set_cons_zero, List.set_cons_succ]); (refine' wpAnyH_take (i := 1) (v := _) rfl (by kernel_rfl) (by kernel_rfl) (by kernel_rfl) (fun _ _ _ h => h) (Or.inl ⟨by rfl, ?hy2⟩) (by assumption) ?rest2; (case hy2 => (intro w hSw; (try dsimp only at hSw); go_simp <;> with_reducible rfl)); simp only [List.getElem_toArray, List.getElem_cons_succ, List.getElem_cons_zero, Act.put, List.setIfInBounds_toArray, List.set_cons_zero, List.set_cons_succ]))
          refine wpAnyH_ready (rs := [2]) (by kernel_rfl) (by simp) ?_
          refine AllReadyH.cons rfl (fun K hK => ?_) AllReadyH.nil
          rw [if_pos (by rfl)]
          go_simp
          refine (hrs.out _ _ C11.out Sx11.out).mono ?_
          rintro e w12 ⟨rfl, hb⟩
          have Sx12 := box (Sx11.out.calm hb)
          have A12 := box (heap_calm hb A11.out)
          have X12 := box (heap_calm hb X11.out)
          have C12 := box (C11.out.trans hb)
          clear hb
          go_wp2_with fail
          refine hK.out _ _ ⟨cell_of A12.out 0, cell_of A12.out 1, cell_of A12.out 2, cell_of A12.out 3, cell_of A12.out 4, cell_of A12.out 5, cell_of A12.out 6, cell_of A12.out 7, cell_of A12.out 8, cell_of A12.out 9, cell_of X12.out 0, cell_of X12.out 1, cell_of X12.out 2, cell_of X12.out 3, cell_of X12.out 4, cell_of X12.out 5, cell_of X12.out 6, cell_of X12.out 7, cell_of X12.out 8, cell_of X12.out 9⟩ (fun hHeld12 => ?_)
          clear hK K
          try simp only [List.getElem_toArray, List.getElem_cons_succ, List.getElem_cons_zero, Act.put, List.setIfInBounds_toArray, List.set_cons_zero, List.set_cons_succ]
          ((refine' wpAnyH_take (i := 3) (v := _) rfl (by kernel_rfl) (by kernel_rfl) (by kernel_rfl) (fun _ _ _ h => h) (Or.inl ⟨by rfl, ?hy3⟩) (by assumption) ?rest3; (case hy3 => (intro w hSw; (try dsimp only at hSw); go_simp <;> with_reducible rfl)); simp only [List.getElem_toArray, List.getElem_cons_succ, List.getElem_cons_zero, Act.put, List.setIfInBounds_toArray, List.set_cons_zero, List.set_cons_succ]); (refine' wpAnyH_take (i := 4) (v := _) rfl (by kernel_rfl) (by kernel_rfl) (by kernel_rfl) (fun _ _ _ h => h) (Or.inl ⟨by rfl, ?hy4⟩) (by assumption) ?rest4; (case hy4 => (intro w hSw; (try dsimp only at hSw); go_simp <;> with_reducible rfl)); simp only [List.getElem_toArray, List.getElem_cons_succ, List.getElem_cons_zero, Act.put, List.setIfInBounds_toArray, List.set_cons_zero, List.set_cons_succ]); (refine' wpAnyH_take (i := 5) (v := _) rfl (by kernel_rfl) (by kernel_rfl) (by kernel_rfl) (fun _ _ _ h => h) (Or.inl ⟨by rfl, ?hy5⟩) (by assumption) ?rest5; (case hy5 => (intro w hSw; (try dsimp only at hSw); go_simp <;> with_reducible rfl)); simp only [List.getElem_toArray, List.getElem_cons_succ, List.getElem_cons_zero, Act.put, List.setIfInBounds_toArray, List.set_cons_zero, List.set_cons_succ]))
          refine wpAnyH_ready (rs := [6]) (by kernel_rfl) (by simp) ?_
          refine AllReadyH.cons rfl (fun K hK => ?_) AllReadyH.nil
          rw [if_pos (by rfl)]
          go_simp
          refine (hss.out _ _ C12.out Sx12.out).mono ?_
          rintro e w13 ⟨rfl, hb⟩
          have A13 := box (heap_calm hb A12.out)
          have X13 := box (heap_calm hb X12.out)
          have C13 := box (C12.out.trans hb)
          clear hb
          go_wp2_with fail
          refine hK.out _ _ ⟨cell_of A13.out 0, cell_of A13.out 1, cell_of A13.out 2, cell_of A13.out 3, cell_of A13.out 4, cell_of A13.out 5, cell_of A13.out 6, cell_of A13.out 7, cell_of A13.out 8, cell_of A13.out 9, cell_of X13.out 0, cell_of X13.out 1, cell_of X13.out 2, cell_of X13.out 3, cell_of X13.out 4, cell_of X13.out 5, cell_of X13.out 6, cell_of X13.out 7, cell_of X13.out 8, cell_of X13.out 9⟩ (fun hHeld13 => ?_)
          clear hK K
          try simp only [List.getElem_toArray, List.getElem_cons_succ, List.getElem_cons_zero, Act.put, List.setIfInBounds_toArray, List.set_cons_zero, List.set_cons_succ]
          ((refine' wpAnyH_take (i := 7) (v := _) rfl (by kernel_rfl) (by kernel_rfl) (by kernel_rfl) (fun _ _ _ h => h) (Or.inl ⟨by rfl, ?hy6⟩) (by assumption) ?rest6; (case hy6 => (intro w hSw; (try dsimp only at hSw); go_simp <;> with_reducible rfl)); simp only [List.getElem_toArray, List.getElem_cons_succ, List.getElem_cons_zero, Act.put, List.setIfInBounds_toArray, List.set_cons_zero, List.set_cons_succ]); (refine' wpAnyH_take (i := 8) (v := _) rfl (by kernel_rfl) (by kernel_rfl) (by kernel_rfl) (fun _ _ _ h => h) (Or.inl ⟨by rfl, ?hy7⟩) (by assumption) ?rest7; (case hy7 => (intro w hSw; (try dsimp only at hSw); go_simp <;> with_reducible rfl)); simp only [List.getElem_toArray, List.getElem_cons_succ, List.getElem_cons_zero, Act.put, List.setIfInBounds_toArray, List.set_cons_zero, List.set_cons_succ]); (refine' wpAnyH_take (i := 9) (v := _) rfl (by kernel_rfl) (by kernel_rfl) (by kernel_rfl) (fun _ _ _ h => h) (Or.inl ⟨by rfl, ?hy8⟩) (by assumption) ?rest8; (case hy8 => (intro w hSw; (try dsimp only at hSw); go_simp <;> with_reducible rfl)); simp only [List.getElem_toArray, List.getElem_cons_succ, List.getElem_cons_zero, Act.put, List.setIfInBounds_toArray, List.set_cons_zero, List.set_cons_succ]); (refine' wpAnyH_take (i := 10) (v := _) rfl (by kernel_rfl) (by kernel_rfl) (by kernel_rfl) (fun _ _ _ h => h) (Or.inl ⟨by rfl, ?hy9⟩) (by assumption) ?rest9; (case hy9 => (intro w hSw; (try dsimp only at hSw); go_simp <;> with_reducible rfl)); simp only [List.getElem_toArray, List.getElem_cons_succ, List.getElem_cons_zero, Act.put, List.setIfInBounds_toArray, List.set_cons_zero, List.set_cons_succ]); (refine' wpAnyH_take (i := 11) (v := _) rfl (by kernel_rfl) (by kernel_rfl) (by kernel_rfl) (fun _ _ _ h => h) (Or.inl ⟨by rfl, ?hy10⟩) (by assumption) ?rest10; (case hy10 => (intro w hSw; (try dsimp only at hSw); go_simp <;> with_reducible rfl)); simp only [List.getElem_toArray, List.getElem_cons_succ, List.getElem_cons_zero, Act.put, List.setIfInBounds_toArray, List.set_cons_zero, List.set_cons_succ]); (refine' wpAnyH_take (i := 12) (v := _) rfl (by kernel_rfl) (by kernel_rfl) (by kernel_rfl) (fun _ _ _ h => h) (Or.inl ⟨by rfl, ?hy11⟩) (by assumption) ?rest11; (case hy11 => (intro w hSw; (try dsimp only at hSw); go_simp <;> with_reducible rfl)); simp only [List.getElem_toArray, List.getElem_cons_succ, List.getElem_cons_zero, Act.put, List.setIfInBounds_toArray, List.set_cons_zero, List.set_cons_succ]); (refine' wpAnyH_take (i := 13) (v := _) rfl (by kernel_rfl) (by kernel_rfl) (by kernel_rfl) (fun _ _ _ h => h) (Or.inl ⟨by rfl, ?hy12⟩) (by assumption) ?rest12; (case hy12 => (intro w hSw; (try dsimp only at hSw); go_simp <;> with_reducible rfl)); simp only [List.getElem_toArray, List.getElem_cons_succ, List.getElem_cons_zero, Act.put, List.setIfInBounds_toArray, List.set_cons_zero, List.set_cons_succ]); (refine' wpAnyH_take (i := 14) (v := _) rfl (by kernel_rfl) (by kernel_rfl) (by kernel_rfl) (fun _ _ _ h => h) (Or.inl ⟨by rfl, ?hy13⟩) (by assumption) ?rest13; (case hy13 => (intro w hSw; (try dsimp only at hSw); go_simp <;> with_reducible rfl)); simp only [List.getElem_toArray, List.getElem_cons_succ, List.getElem_cons_zero, Act.put, List.setIfInBounds_toArray, List.set_cons_zero, List.set_cons_succ]); (refine' wpAnyH_take (i := 15) (v := _) rfl (by kernel_rfl) (by kernel_rfl) (by kernel_rfl) (fun _ _ _ h => h) (Or.inl ⟨by rfl, ?hy14⟩) (by assumption) ?rest14; (case hy14 => (intro w hSw; (try dsimp only at hSw); go_simp <;> with_reducible rfl)); simp only [List.getElem_toArray, List.getElem_cons_succ, List.getElem_cons_zero, Act.put, List.setIfInBounds_toArray, List.set_cons_zero, List.set_cons_succ]); (refine' wpAnyH_take (i := 16) (v := _) rfl (by kernel_rfl) (by kernel_rfl) (by kernel_rfl) (fun _ _ _ h => h) (Or.inl ⟨by rfl, ?hy15⟩) (by assumption) ?rest15; (case hy15 => (intro w hSw; (try dsimp only at hSw); go_simp <;> with_reducible rfl)); simp only [List.getElem_toArray, List.getElem_cons_succ, List.getElem_cons_zero, Act.put, List.setIfInBounds_toArray, List.set_cons_zero, List.set_cons_succ]); (refine' wpAnyH_take (i := 17) (v := _) rfl (by kernel_rfl) (by kernel_rfl) (by kernel_rfl) (fun _ _ _ h => h) (Or.inl ⟨by rfl, ?hy16⟩) (by assumption) ?rest16; (case hy16 => (intro w hSw; (try dsimp only at hSw); go_simp <;> with_reducible rfl)); simp only [List.getElem_toArray, List.getElem_cons_succ, List.getElem_cons_zero, Act.put, List.setIfInBounds_toArray, List.set_cons_zero, List.set_cons_succ]); (refine' wpAnyH_take (i := 18) (v := _) rfl (by kernel_rfl) (by kernel_rfl) (by kernel_rfl) (fun _ _ _ h => h) (Or.inl ⟨by rfl, ?hy17⟩) (by assumption) ?rest17; (case hy17 => (intro w hSw; (try dsimp only at hSw); go_simp <;> with_reducible rfl)); simp only [List.getElem_toArray, List.getElem_cons_succ, List.getElem_cons_zero, Act.put, List.setIfInBounds_toArray, List.set_cons_zero, List.set_cons_succ]); (refine' wpAnyH_take (i := 19) (v := _) rfl (by kernel_rfl) (by kernel_rfl) (by kernel_rfl) (fun _ _ _ h => h) (Or.inl ⟨by rfl, ?hy18⟩) (by assumption) ?rest18; (case hy18 => (intro w hSw; (try dsimp only at hSw); go_simp <;> with_reducible rfl)); simp only [List.getElem_toArray, List.getElem_cons_succ, List.getElem_cons_zero, Act.put, List.setIfInBounds_toArray, List.set_cons_zero, List.set_cons_succ]); (refine' wpAnyH_take (i := 20) (v := _) rfl (by kernel_rfl) (by kernel_rfl) (by kernel_rfl) (fun _ _ _ h => h) (Or.inl ⟨by rfl, ?hy19⟩) (by assumption) ?rest19; (case hy19 => (intro w hSw; (try dsimp only at hSw); go_simp <;> with_reducible rfl)); simp only [List.getElem_toArray, List.getElem_cons_succ, List.getElem_cons_zero, Act.put, List.setIfInBounds_toArray, List.set_cons_zero, List.set_cons_succ]); (refine' wpAnyH_take (i := 21) (v := _) rfl (by kernel_rfl) (by kernel_rfl) (by kernel_rfl) (fun _ _ _ h => h) (Or.inl ⟨by rfl, ?hy20⟩) (by assumption) ?rest20; (case hy20 => (intro w hSw; (try dsimp only at hSw); go_simp <;> with_reducible rfl)); simp only [List.getElem_toArray, List.getElem_cons_succ, List.getElem_cons_zero, Act.put, List.setIfInBounds_toArray, List.set_cons_zero, List.set_cons_succ]); (refine' wpAnyH_take (i := 22) (v := _) rfl (by kernel_rfl) (by kernel_rfl) (by kernel_rfl) (fun _ _ _ h => h) (Or.inl ⟨by rfl, ?hy21⟩) (by assumption) ?rest21; (case hy21 => (intro w hSw; (try dsimp only at hSw); go_simp <;> with_reducible rfl)); simp only [List.getElem_toArray, List.getElem_cons_succ, List.getElem_cons_zero, Act.put, List.setIfInBounds_toArray, List.set_cons_zero, List.set_cons_succ]); (refine' wpAnyH_take (i := 23) (v := _) rfl (by kernel_rfl) (by kernel_rfl) (by kernel_rfl) (fun _ _ _ h => h) (Or.inl ⟨by rfl, ?hy22⟩) (by assumption) ?rest22; (case hy22 => (intro w hSw; (try dsimp only at hSw); go_simp <;> with_reducible rfl)); simp only [List.getElem_toArray, List.getElem_cons_succ, List.getElem_cons_zero, Act.put, List.setIfInBounds_toArray, List.set_cons_zero, List.set_cons_succ]))
          ((refine' wpAnyH_take (i := 25) (v := _) rfl (by kernel_rfl) (by kernel_rfl) (by kernel_rfl) (fun _ _ _ h => h) (Or.inl ⟨by rfl, ?hy23⟩) (by assumption) ?rest23; (case hy23 => (intro w hSw; (try dsimp only at hSw); go_simp <;> with_reducible rfl)); simp only [List.getElem_toArray, List.getElem_cons_succ, List.getElem_cons_zero, Act.put, List.setIfInBounds_toArray, List.set_cons_zero, List.set_cons_succ]))
          refine wpAnyH_ready (rs := [24]) (by kernel_rfl) (by simp) ?_
          refine AllReadyH.cons rfl (fun K hK => ?_) AllReadyH.nil
          rw [if_pos (by rfl)]
          go_simp
          refine (hcopy.out _ C13.out).mono ?_
          rintro e w14 ⟨kc, rfl, hsc, _, hb⟩
          have Sc := box hsc
          have A14 := box (heap_calm hb A13.out)
          have X14 := box (heap_calm hb X13.out)
          have C14 := box (C13.out.trans hb)
          clear hb
          go_wp2_with fail
          refine hK.out _ _ ⟨cell_of A14.out 0, cell_of A14.out 1, cell_of A14.out 2, cell_of A14.out 3, cell_of A14.out 4, cell_of A14.out 5, cell_of A14.out 6, cell_of A14.out 7, cell_of A14.out 8, cell_of A14.out 9, cell_of X14.out 0, cell_of X14.out 1, cell_of X14.out 2, cell_of X14.out 3, cell_of X14.out 4, cell_of X14.out 5, cell_of X14.out 6, cell_of X14.out 7, cell_of X14.out 8, cell_of X14.out 9⟩ (fun hHeld14 => ?_)
          clear hK K
          try simp only [List.getElem_toArray, List.getElem_cons_succ, List.getElem_cons_zero, Act.put, List.setIfInBounds_toArray, List.set_cons_zero, List.set_cons_succ]
          refine wpAnyH_ready (rs := [26]) (by kernel_rfl) (by simp) ?_
          refine AllReadyH.cons rfl (fun K hK => ?_) AllReadyH.nil
          rw [if_pos (by rfl)]
          go_simp
          refine (hss.out _ _ C14.out Sc.out).mono ?_
          rintro e w15 ⟨rfl, hb⟩
          have A15 := box (heap_calm hb A14.out)
          have X15 := box (heap_calm hb X14.out)
          have C15 := box (C14.out.trans hb)
          clear hb
          go_wp2_with fail
          refine hK.out _ _ ⟨cell_of A15.out 0, cell_of A15.out 1, cell_of A15.out 2, cell_of A15.out 3, cell_of A15.out 4, cell_of A15.out 5, cell_of A15.out 6, cell_of A15.out 7, cell_of A15.out 8, cell_of A15.out 9, cell_of X15.out 0, cell_of X15.out 1, cell_of X15.out 2, cell_of X15.out 3, cell_of X15.out 4, cell_of X15.out 5, cell_of X15.out 6, cell_of X15.out 7, cell_of X15.out 8, cell_of X15.out 9⟩ (fun hHeld15 => ?_)
          clear hK K
          try simp only [List.getElem_toArray, List.getElem_cons_succ, List.getElem_cons_zero, Act.put, List.setIfInBounds_toArray, List.set_cons_zero, List.set_cons_succ]
          ((refine' wpAnyH_take (i := 27) (v := _) rfl (by kernel_rfl) (by kernel_rfl) (by kernel_rfl) (fun _ _ _ h => h) (Or.inl ⟨by rfl, ?hy24⟩) (by assumption) ?rest24; (case hy24 => (intro w hSw; (try dsimp only at hSw); go_simp <;> with_reducible rfl)); simp only [List.getElem_toArray, List.getElem_cons_succ, List.getElem_cons_zero, Act.put, List.setIfInBounds_toArray, List.set_cons_zero, List.set_cons_succ]); (refine' wpAnyH_take (i := 28) (v := _) rfl (by kernel_rfl) (by kernel_rfl) (by kernel_rfl) (fun _ _ _ h => h) (Or.inl ⟨by rfl, ?hy25⟩) (by assumption) ?rest25; (case hy25 => (intro w hSw; (try dsimp only at hSw); go_simp <;> with_reducible rfl)); simp only [List.getElem_toArray, List.getElem_cons_succ, List.getElem_cons_zero, Act.put, List.setIfInBounds_toArray, List.set_cons_zero, List.set_cons_succ]))
          refine wpAnyH_done (by kernel_rfl) ?_ _
          go_wp2_with fail
          go_ret
          exact ⟨rfl, C15.out⟩
        · have hp := hnone.out hx
          simp only [Prod.mk.injEq] at hp
          obtain ⟨rfl, rfl⟩ := hp
          go_wp2_with fail
          go_ret
          exact ⟨rfl, C7.out⟩
      · rw [decide_eq_false hR] at hright hrright
        have hp := hno.out hR
        simp only [Prod.mk.injEq] at hp
        obtain ⟨rfl, rfl⟩ := hp
        go_wp2_with fail
        refine (hrright.out _ C3.out).mono ?_
        rintro e w4 ⟨rfl, hc4⟩
        have T4 := box (heap_calm hc4 T3.out)
        have A4 := box (heap_calm hc4 A3.out)
        have C4 := box (C3.out.trans hc4)
        clear hc4 a0 a1 a2 a3 a4 a5 a6 a7 a8 a9 hla
        have a0 := cell_of A4.out 0
        have a1 := cell_of A4.out 1
        have a2 := cell_of A4.out 2
        have a3 := cell_of A4.out 3
        have a4 := cell_of A4.out 4
        have a5 := cell_of A4.out 5
        have a6 := cell_of A4.out 6
        have a7 := cell_of A4.out 7
        have a8 := cell_of A4.out 8
        have a9 := cell_of A4.out 9
        have hla := heap_lt A4.out
        go_wp2_with fail
        refine (hright.out _ C4.out).mono ?_
        rintro e w5 ⟨rfl, hc5⟩
        have T5 := box (heap_calm hc5 T4.out)
        have A5 := box (heap_calm hc5 A4.out)
        have C5 := box (C4.out.trans hc5)
        clear hc5 a0 a1 a2 a3 a4 a5 a6 a7 a8 a9 hla
        have a0 := cell_of A5.out 0
        have a1 := cell_of A5.out 1
        have a2 := cell_of A5.out 2
        have a3 := cell_of A5.out 3
        have a4 := cell_of A5.out 4
        have a5 := cell_of A5.out 5
        have a6 := cell_of A5.out 6
        have a7 := cell_of A5.out 7
        have a8 := cell_of A5.out 8
        have a9 := cell_of A5.out 9
        have hla := heap_lt A5.out
        go_wp2_with fail
        refine (hput.out tb _ C5.out T5.out).mono ?_
        rintro e w7 ⟨rfl, hc7⟩
        have C7 := box (C5.out.trans hc7)
        clear hc7
        go_wp2_with fail
        go_ret
        exact ⟨rfl, C7.out⟩

theorem own : ownKnob Tryz.prog.godebug = none := by kernel_rfl
theorem laidOut : laidOutB Tryz.prog = true := by kernel_rfl
set_option maxRecDepth 100000 in
set_option linter.unusedVariables false in
theorem lifted (os : Os) (started : os.Started) (H : Type) (enc : TypeId × Value → H) :
    ReturnsInHanded {} Tryz.checked os 3 .any (Rows.recPutsSpec.pre6 enc Tryz.prog Tryz.f3 Rows.recPutsRow.domain false) (Rows.recPutsSpec.post enc Tryz.prog Tryz.f3 false true false false) := by
  refine returnsInHanded_of_change_sized (C := Tryz.checked) own started (by kernel_rfl) Tryz.func3
    (ChangeSpec.witness6 (enc := enc) (C := Tryz.checked) false ⟨#[], #[.agg #[.int .i64 0, .int .i64 0, .int .i64 0, .int .i64 0, .int .i64 0, .int .i64 0, .string ⟨#[]⟩, .string ⟨#[]⟩, .string ⟨#[]⟩, .slice none 0 0], .string ⟨#[]⟩], []⟩ 8 (by kernel_rfl) (by kernel_rfl) (by kernel_rfl) (by kernel_rfl)) ?_
  intro W base args ds gs before hval0 hW hcnd hsz0 _
  have hsz : (DataW.weightsEach Tryz.prog (Tryz.f3.params.toList ++ []) (ds ++ gs)).all (· ≤ reachBytes) = true := hsz0
  clear hsz0
  have hval : ∀ (j : Nat) t v, Tryz.f3.params[j]? = some t → args[j]? = some v → Value.okWide Tryz.prog W .any base t v := hval0
  have hW' := hW
  obtain ⟨p, q, hA0, hV, rfl, hfz, hnd⟩ := hW
  have hA : DataW.TrodAll enc Tryz.prog W 0 (fun _ => true) true Tryz.f3.params.toList args.toList ds p := hA0
  rw [Tryz.params3] at hA hval hsz
  obtain ⟨v0, vs0, d0, ds0, p0, q0, hargs, rfl, rfl, h0, r0'⟩ := trodAll_cons hA
  obtain ⟨v1, vs1, d1, ds1, p1, q1, rfl, rfl, rfl, h1, r1'⟩ := trodAll_cons r0'
  obtain ⟨rfl, rfl, rfl⟩ := trodAll_nil r1'
  obtain rfl : args = #[v0, v1] := by cases args; simp_all
  obtain ⟨rfl, rfl⟩ := trodVars_none hV
  clear hA0 hval0
  have wt0 := fun n hn => (by simpa using List.all_eq_true.1 hsz n (DataW.weights_mem_each (j := 0) rfl rfl n hn) : n ≤ reachBytes)
  have wt1 := fun n hn => (by simpa using List.all_eq_true.1 hsz n (DataW.weights_mem_each (j := 1) rfl rfl n hn) : n ≤ reachBytes)
  have hlt : ∀ x ∈ p0 ++ (p1 ++ []), x.block < W.heap.size := fun x hx => by have := hW'.lt x (by simpa using hx); simpa using this
  obtain ⟨y0, e0, r0⟩ := msg_arg (struct_shape Tryz.underlying24 (hval 0 24 v0 rfl rfl)) ((opens_msg).arg h0)
  subst e0
  obtain ⟨s1, e1, _, _, z1⟩ := Go.ChangeMaps.open_string Tryz.underlying9 (hval 1 9 v1 rfl rfl) h1
  subst e1
  refine (walk W y0 r0 s1 z1).mono fun e W' ⟨he, hg⟩ => ?_
  subst he
  refine ⟨_, rfl, _, _, _, [] ++ [], p0 ++ (p1 ++ []), [], hW', ?_, ?_, ?_, hg.frame _, fun h => by cases h⟩
  · exact trodAll_mk1 (shut_bool Tryz.underlying4 true)
  · exact trodAll_cons_mk (Below.trod laidOut (by kernel_rfl) (of_decide_eq_true (by kernel_rfl)) h0 hg (fun x hx => hlt x (by simp [hx]))) (trodAll_cons_mk (Below.trod laidOut (by kernel_rfl) (of_decide_eq_true (by kernel_rfl)) h1 hg (fun x hx => hlt x (by simp [hx]))) (trodAll_mk0))
  · exact rfl

theorem over : Rows.recPutsRow.holds Tryz.pinned (OpenSpec.ofChange Rows.recPutsSpec) :=
  OpenClaim.holds_of_wide 3 Tryz.f3 rfl rfl rfl rfl rfl rfl rfl ⟨rfl, rfl, rfl, rfl, rfl⟩ rfl rfl rfl rfl rfl (by kernel_rfl) Tryz.func3 (by kernel_rfl)
    (of_decide_eq_true (by kernel_rfl)) (by unfold Func.isWrapper; first | (rw [if_pos (by decide +kernel)]; kernel_rfl) | (rw [if_neg (by decide +kernel)]; exact ⟨rfl, rfl⟩))
    (fun os started H enc _ => lifted os started H enc)

theorem proved : Rows.RecPutsSaid := over
#print axioms proved
end Go.Proofs.YtofffmnkoelifaaGreat.rputs
