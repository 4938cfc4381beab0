/- Layer 10: Base, Add. -/
import Derived.Test.YtdepejneliacpaaGreatDoorRows
import Derived.WalkKit
import Derived.ProofKit
import Derived.OpenShut
import Derived.Handy
import Derived.Deep.LoopGhost
import Derived.Lib.Hide
import Derived.Lib.Strings
import Derived.SizedLaws
import Derived.Maps.Own
import Derived.Maps.OwnOps
import Derived.Maps.OwnSet
import Derived.Maps.RangeWalk
import Derived.Deep.QuietTactic
import Derived.BigQuiet
import Derived.Deep.RegionHeld3
import Derived.Lib.ConvBytes
import Derived.Lib.AppendZeros
import Derived.Lib.AppendZerosOnto
import Derived.Lib.LazyBuf
import Derived.Shelf.Abstract
import Derived.LaidEql
import Derived.Lib.SliceRun
import Derived.StillTailTactics
import Derived.Deep.Slices
import Derived.Lib.Atoi
import Derived.Lib.ItoaNum
import Derived.Lib.SlTrimSet
import Derived.Shelf.SlIter.Nil
import Derived.Ground.GgzProg
import Derived.Shelf.SortM.Plain
import Derived.Shelf.SortM.SortNone
import Derived.Ground.SlgmProg
import Derived.Shelf.SlicesE.DeleteFunc
import Derived.Ground.SlgfProg
import Derived.Test.YtdepejneliacpaaGreatDoorProg
import Derived.Shelf.Strings.Builder1
import Derived.Shelf.Strings.Builder2
import Derived.Shelf.Strings.Trim
import Derived.Shelf.Small.Utf8
import Derived.Shelf.Small.Bits
import Derived.Shelf.Small.Strs
import Derived.Shelf.Small.Wraps
import Derived.Shelf.Strings.BuilderF
import Derived.Shelf.Strings.BuilderK
import Derived.Shelf.Strings.Builder2Cap
import Derived.Shelf.Strconv.Atoi
import Derived.Shelf.Strconv.Itoa0
import Derived.Shelf.Strconv.Itoa1
import Derived.Shelf.LaysM
import Derived.Shelf.Strconv.Itoa2
import Derived.Shelf.Strconv.Itoa3
import Derived.Shelf.Strings.Search1
import Derived.Shelf.Sort.Plain
import Derived.Shelf.GgClosure.StringsIndexFunc
import Derived.Ground.GgwProg
import Derived.Shelf.GgClosure.StringsIndexFuncTop
import Derived.Shelf.GgClosure.StringsRunes
import Derived.Shelf.Strings.Prefix
import Derived.Shelf.Strings.Runes
import Derived.Shelf.Strings.AsciiSet
import Derived.Shelf.Bits.Mul64
import Derived.Shelf.Strings.Repeat
import Derived.Shelf.Unicode.DecodeSlow
import Derived.Shelf.Unicode.DecodeAny
import Derived.Shelf.Unicode.DecodeLast
import Derived.Shelf.Strings.BuilderCap
import Derived.Shelf.Slices.Equal
import Derived.Ground.Names2Prog
import Derived.Shelf.Slices.Clone
import Derived.Shelf.Slices.CompactS
import Derived.Shelf.Slices.SearchI
import Derived.Shelf.Slices.Cells
import Derived.Shelf.Slices.In.SortNone
import Derived.Shelf.Slices.Empties2
import Derived.Ground.SlgnProg
import Derived.Shelf.SlicesE.Equal
import Derived.Shelf.SlicesE.Compact
import Derived.Shelf.SlicesE.Clone
import Derived.Shelf.SlicesE.IndexFunc
import Derived.Shelf.Strings.SlTrimAscii
import Derived.Lib.Repeat
import Derived.Lib.LaidTab
import Derived.Deep.RegionLaw
import Derived.Deep.RegionWith
import Derived.Lib.AtoiErrMem
import Derived.Laws.MakeOwn
import Derived.Lib.Builder
import Derived.Lib.AppendStr
import Derived.Lib.DecodeN
import Derived.Maps.Keyed
import Derived.DeepKeys4
import Derived.Test.YtdepejneliacpaaGreatDoorPk26
namespace Go.Proofs.YtdepejneliacpaaGreatDoor.cq
open Go.ChangeShapes Go.WideShapes Go.ChangeAt Go.RowKit Go.ChangeMaps
open Go.Proofs.YtdepejneliacpaaGreatDoor.dk Go.Proofs.YtdepejneliacpaaGreatDoor.sg Go.Proofs.YtdepejneliacpaaGreatDoor.en Go.Proofs.YtdepejneliacpaaGreatDoor.nm

section
variable {B : ByteArray → Option ByteArray} {W w w' : World} {g p mb n c m r : Nat} {D : DiskS} {R : RowS} {F : Nat → Prop} {v : Value} {es l1 l2 : List Qe} {e : Qe} {t : ByteArray} {k : Int}
/-- An entry's bytes go into its queue's row. -/
theorem CqAt.append (h : CqAt B W g p mb n c m D F (l1 ++ e :: l2) w) (y : P4) (hy : y.ok = true) (hn : n ≤ 999990) (hm : m + 21 ≤ c) (hl : e.q.l.length < 10000) :
    Calls Tryz.prog 64 #[ptrTo e.r, .string ⟨(plcB y).toArray⟩] w fun e' w' => ∃ D' R' F' v', e' = .returned (.tuple #[.int .i64 (e.R.fin : Int), .int .i64 0]) ∧ CqAt B W g p mb (n + 1) c (m + 21) D' F' (l1 ++ ⟨e.q.add y, e.x, e.r, R', v'⟩ :: l2) w' ∧ KeptQ w w' := by
  have he := h.rows e (List.mem_append_right _ (List.mem_cons_self ..))
  have hsz : (⟨(plcB y).toArray⟩ : ByteArray).size = 20 := by rw [bytes_size, plcB_length]
  have hfin := he.rowed.fin
  have hst := he.rowed.start
  have hhi := he.rowed.high
  have hlo := he.rowed.low
  refine (he.lw.append ⟨(plcB y).toArray⟩ hn (by rw [hsz]; decide) (fun _ _ => ⟨by rw [hsz]; omega, by omega⟩) (by rw [he.rowed.head, headQ_size]; have := he.rowed.t; omega)).mono ?_
  rintro e' w' (⟨hb, _⟩ | ⟨_, _, rfl, D', R', hx, e1, e2, e3, e4, e5, e6, e7⟩)
  · have := he.rowed.room he.lw.holds.ok
    omega
  · rw [hsz] at hx e7
    have hr := he.rowed.add hy e3 e4 e5 e7 e1 hl
    have hb : e.q.bytes e.R.start ++ (⟨(plcB y).toArray⟩ : ByteArray).data.toList = (e.q.add y).bytes R'.start := by
      rw [e5, QS.add_bytes _ _ _ (by omega)]
    rw [hb] at hx
    obtain ⟨F', v', h1, h2⟩ := h.next hx hr e3 rfl rfl rfl rfl
    exact ⟨D', R', F', v', rfl, h1, h2⟩
/-- What 'Base' leaves. -/
def BaseDone (B : ByteArray → Option ByteArray) (W : World) (g p mb n c m : Nat) (D : DiskS) (F : Nat → Prop) (es : List Qe) (t : ByteArray) (k a : Int) (w : World) (e : Ending) (w' : World) : Prop :=
  KeptQ w w' ∧ ((rightC t k ≠ 0 ∧ e = .returned (.int .i64 (rightC t k)) ∧ CqAt B W g p mb n c m D F es w') ∨ (rightC t k = 0 ∧ (a < 0 ∨ 1099511627776 < a) ∧ e = .returned (.int .i64 2) ∧ CqAt B W g p mb n c m D F es w') ∨
    (rightC t k = 0 ∧ 0 ≤ a ∧ a ≤ 1099511627776 ∧ (∃ e ∈ es, e.q.is t k) ∧ e = .returned (.int .i64 10) ∧ CqAt B W g p mb n c m D F es w') ∨
    (rightC t k = 0 ∧ 0 ≤ a ∧ a ≤ 1099511627776 ∧ (∀ e ∈ es, ¬ e.q.is t k) ∧ e = .returned (.int .i64 0) ∧ ∃ x r v F', CqAt B W g p mb n c m D F' (es ++ [newQ t k.toNat a.toNat x r v]) w'))
theorem BaseDone.mk {a : Int} {x : Ending} (h : KeptQ w w' ∧ ((rightC t k ≠ 0 ∧ x = .returned (.int .i64 (rightC t k)) ∧ CqAt B W g p mb n c m D F es w') ∨ (rightC t k = 0 ∧ (a < 0 ∨ 1099511627776 < a) ∧ x = .returned (.int .i64 2) ∧ CqAt B W g p mb n c m D F es w') ∨
    (rightC t k = 0 ∧ 0 ≤ a ∧ a ≤ 1099511627776 ∧ (∃ e ∈ es, e.q.is t k) ∧ x = .returned (.int .i64 10) ∧ CqAt B W g p mb n c m D F es w') ∨
    (rightC t k = 0 ∧ 0 ≤ a ∧ a ≤ 1099511627776 ∧ (∀ e ∈ es, ¬ e.q.is t k) ∧ x = .returned (.int .i64 0) ∧ ∃ x r v F', CqAt B W g p mb n c m D F' (es ++ [newQ t k.toNat a.toNat x r v]) w'))) : BaseDone B W g p mb n c m D F es t k a w x w' := h
theorem is_or (es : List Qe) (t : ByteArray) (k : Int) : (∃ l1 e l2, es = l1 ++ e :: l2 ∧ e.q.is t k) ∨ ∀ e ∈ es, ¬ e.q.is t k := by
  by_cases h : ∃ e ∈ es, e.q.is t k
  · obtain ⟨e, he, hk⟩ := h
    obtain ⟨l1, l2, rfl⟩ := List.append_of_mem he
    exact .inl ⟨l1, e, l2, rfl, hk⟩
  · exact .inr fun e he hk => h ⟨e, he, hk⟩
theorem CqAt.hits (h : CqAt B W g p mb n c m D F (l1 ++ e :: l2) w) (hk : e.q.is t k) (ht : t.size ≤ maxLen) (hn : (Lit.int .i64 k).wf = true) : ∀ d, (Instr.lookup 106 (.map (some mb)) (.agg #[.string t, .int .i64 k]) false).run Tryz.prog (w.drewN d) = .ok (ptrTo e.x) (w.drewN d) :=
  fun d => (h.cale ((Calm.refl w).drewN d)).hit hk ht hn
theorem CqAt.misses (h : CqAt B W g p mb n c m D F es w) (hno : ∀ e ∈ es, ¬ e.q.is t k) (ht : t.size ≤ maxLen) (hn : (Lit.int .i64 k).wf = true) : ∀ d, (Instr.lookup 106 (.map (some mb)) (.agg #[.string t, .int .i64 k]) false).run Tryz.prog (w.drewN d) = .ok (.pointer none) (w.drewN d) :=
  fun d => (h.cale ((Calm.refl w).drewN d)).miss hno ht hn
set_option maxRecDepth 100000 in
set_option maxHeartbeats 4000000 in
theorem Base_any (h : CqAt B W g p mb n c m D F es w) (t : ByteArray) (k a : Int) (ht : t.size ≤ 100) (hwf : (Lit.int .i64 k).wf = true) (hn : n ≤ 1000000) (hm : m ≤ 1000000) :
    Calls Tryz.prog 18 #[ptrTo g, .string t, .int .i64 k, .int .i64 a] w (BaseDone B W g p mb n c m D F es t k a w) := by
  obtain ⟨wa, hwa⟩ : ∃ wa, w.alloc (.cells #[.string t, .int .i64 k] 119) = wa := ⟨_, rfl⟩
  have hca : Calm w wa := by rw [← hwa]; exact (Calm.refl w).alloc _
  have Hkey := box (show wa.heap[w.heap.size]? = some (.cells #[.string t, .int .i64 k] 119 (0, 0)) from by rw [← hwa]; exact heap_new w _)
  have Ha := box (h.cale hca)
  have Hca := box hca
  have hri := box (right_any t k wa)
  obtain ⟨rc, hrc⟩ : ∃ rc, rightC t k = rc := ⟨_, rfl⟩
  have Hrc := box hrc
  rw [hrc] at hri
  have Hwf := box hwf
  clear h hca hrc hwf
  by_cases h0 : rc = 0
  · subst h0
    by_cases ha : a < 0
    · have t1 : decide (a < 0) = true := decide_eq_true ha
      go_enter Tryz.func18, Tryz.ntmps18
      go_wp2_with fail
      (try rw [hwa])
      refine hri.out.mono ?_
      rintro e w2 ⟨rfl, hc2⟩
      have H2 := box (Ha.out.cale hc2)
      have K2 := box (KeptQ.calm (Hca.out.trans hc2))
      clear hc2
      go_wp2_with fail
      go_ret
      exact BaseDone.mk ⟨K2.out, .inr (.inl ⟨Hrc.out, .inl ha, rfl, H2.out⟩)⟩
    have t1 : decide (a < 0) = false := decide_eq_false ha
    by_cases hb : 1099511627776 < a
    · have t2 : decide (1099511627776 < a) = true := decide_eq_true hb
      go_enter Tryz.func18, Tryz.ntmps18
      go_wp2_with fail
      (try rw [hwa])
      refine hri.out.mono ?_
      rintro e w2 ⟨rfl, hc2⟩
      have H2 := box (Ha.out.cale hc2)
      have K2 := box (KeptQ.calm (Hca.out.trans hc2))
      clear hc2
      go_wp2_with fail
      go_ret
      exact BaseDone.mk ⟨K2.out, .inr (.inl ⟨Hrc.out, .inr hb, rfl, H2.out⟩)⟩
    have t2 : decide (1099511627776 < a) = false := decide_eq_false hb
    obtain ⟨j, rfl⟩ : ∃ j : Nat, a = j := ⟨a.toNat, by omega⟩
    obtain ⟨htop, hk0, hk3⟩ := right_zero Hrc.out
    obtain ⟨q, rfl⟩ : ∃ q : Nat, k = q := ⟨k.toNat, by omega⟩
    have hk3' : q < 3 := by omega
    rcases is_or es t (q : Int) with ⟨l1, e, l2, rfl, hk⟩ | hno
    · go_enter Tryz.func18, Tryz.ntmps18
      go_wp2_with fail
      (try rw [hwa])
      refine hri.out.mono ?_
      rintro e' w2 ⟨rfl, hc2⟩
      have H2 := box (Ha.out.cale hc2)
      have K2 := box (KeptQ.calm (Hca.out.trans hc2))
      have k2 := heap_calm hc2 Hkey.out
      have q0 := cell_of k2 0
      have q1 := cell_of k2 1
      have qlt := heap_lt k2
      obtain ⟨c0, c1, clt⟩ := H2.out.cells
      have hh := H2.out.hits hk (by unfold maxLen; omega) Hwf.out
      have Hk := box hk
      clear hc2 k2 hk
      go_wp2_with (first | go_quiet (fail) | fail)
      have H3 := box (H2.out.cale ((Calm.refl w2).drewN nq))
      have K3 := box (K2.out.trans (.calm ((Calm.refl w2).drewN nq)))
      go_wp2_with fail
      go_ret
      exact BaseDone.mk ⟨K3.out, .inr (.inr (.inl ⟨Hrc.out, by omega, by omega, ⟨e, List.mem_append_right _ (List.mem_cons_self ..), Hk.out⟩, rfl, H3.out⟩))⟩
    · go_enter Tryz.func18, Tryz.ntmps18
      go_wp2_with fail
      (try rw [hwa])
      refine hri.out.mono ?_
      rintro e' w2 ⟨rfl, hc2⟩
      have H2 := box (Ha.out.cale hc2)
      have K2 := box (KeptQ.calm (Hca.out.trans hc2))
      have Hk2 := box (heap_calm hc2 Hkey.out)
      have q0 := cell_of Hk2.out 0
      have q1 := cell_of Hk2.out 1
      have qlt := heap_lt Hk2.out
      obtain ⟨c0, c1, clt⟩ := H2.out.cells
      have hh := H2.out.misses hno (by unfold maxLen; omega) Hwf.out
      have Hno := box hno
      clear hc2 hno
      go_wp2_with (first | go_quiet (fail) | fail)
      have H3 := box (H2.out.cale ((Calm.refl w2).drewN nq))
      have K3 := box (K2.out.trans (.calm ((Calm.refl w2).drewN nq)))
      have hbg := box (begun_any H3.out t q j ht hk3' (by omega) Hno.out hn hm)
      refine hbg.out.mono ?_
      rintro e' w4 ⟨x, r, v, F4, rfl, h4, k4⟩
      have H4 := box h4
      have K4 := box (K3.out.trans k4)
      clear h4 k4 hbg
      go_wp2_with fail
      go_ret
      exact BaseDone.mk ⟨K4.out, .inr (.inr (.inr ⟨Hrc.out, by omega, by omega, Hno.out, rfl, x, r, v, F4, H4.out⟩))⟩
  · go_enter Tryz.func18, Tryz.ntmps18
    go_wp2_with fail
    (try rw [hwa])
    refine hri.out.mono ?_
    rintro e w2 ⟨rfl, hc2⟩
    have H2 := box (Ha.out.cale hc2)
    have K2 := box (KeptQ.calm (Hca.out.trans hc2))
    have hb : (rc != 0) = true := bne_iff_ne.2 h0
    clear hc2
    go_wp2_with fail
    go_ret
    exact BaseDone.mk ⟨K2.out, .inl ⟨by rw [Hrc.out]; exact h0, by rw [Hrc.out]; rfl, H2.out⟩⟩
/-- What 'Add' leaves. -/
def AddDone (B : ByteArray → Option ByteArray) (W : World) (g p mb n c m : Nat) (D : DiskS) (F : Nat → Prop) (es : List Qe) (t : ByteArray) (k : Int) (y : P4) (w : World) (x : Ending) (w' : World) : Prop :=
  KeptQ w w' ∧ ((rightC t k ≠ 0 ∧ x = .returned (.tuple #[.int .i64 0, .int .i64 (rightC t k)]) ∧ CqAt B W g p mb n c m D F es w') ∨ (rightC t k = 0 ∧ y.ok = false ∧ x = .returned (.tuple #[.int .i64 0, .int .i64 1]) ∧ CqAt B W g p mb n c m D F es w') ∨
    (rightC t k = 0 ∧ y.ok = true ∧ ∃ l1 e l2, es = l1 ++ e :: l2 ∧ e.q.is t k ∧ x = .returned (.tuple #[.int .i64 (e.q.next : Int), .int .i64 0]) ∧ ∃ D' F' R' v', CqAt B W g p mb (n + 1) c (m + 21) D' F' (l1 ++ ⟨e.q.add y, e.x, e.r, R', v'⟩ :: l2) w') ∨
    (rightC t k = 0 ∧ y.ok = true ∧ (∀ e ∈ es, ¬ e.q.is t k) ∧ x = .returned (.tuple #[.int .i64 0, .int .i64 0]) ∧ ∃ D' F' R' v' b r, CqAt B W g p mb (n + 1) c (m + 21) D' F' (es ++ [⟨(⟨t, k.toNat, 0, 0, []⟩ : QS).add y, b, r, R', v'⟩]) w'))
theorem AddDone.mk {y : P4} {x : Ending} (h : KeptQ w w' ∧ ((rightC t k ≠ 0 ∧ x = .returned (.tuple #[.int .i64 0, .int .i64 (rightC t k)]) ∧ CqAt B W g p mb n c m D F es w') ∨ (rightC t k = 0 ∧ y.ok = false ∧ x = .returned (.tuple #[.int .i64 0, .int .i64 1]) ∧ CqAt B W g p mb n c m D F es w') ∨
    (rightC t k = 0 ∧ y.ok = true ∧ ∃ l1 e l2, es = l1 ++ e :: l2 ∧ e.q.is t k ∧ x = .returned (.tuple #[.int .i64 (e.q.next : Int), .int .i64 0]) ∧ ∃ D' F' R' v', CqAt B W g p mb (n + 1) c (m + 21) D' F' (l1 ++ ⟨e.q.add y, e.x, e.r, R', v'⟩ :: l2) w') ∨
    (rightC t k = 0 ∧ y.ok = true ∧ (∀ e ∈ es, ¬ e.q.is t k) ∧ x = .returned (.tuple #[.int .i64 0, .int .i64 0]) ∧ ∃ D' F' R' v' b r, CqAt B W g p mb (n + 1) c (m + 21) D' F' (es ++ [⟨(⟨t, k.toNat, 0, 0, []⟩ : QS).add y, b, r, R', v'⟩]) w'))) : AddDone B W g p mb n c m D F es t k y w x w' := h
set_option maxRecDepth 100000 in
set_option maxHeartbeats 4000000 in
theorem Add_any (h : CqAt B W g p mb n c m D F es w) (t : ByteArray) (k : Int) (y : P4) (ht : t.size ≤ 100) (hwf : (Lit.int .i64 k).wf = true) (hy : ∀ x ∈ [y.a, y.b, y.c, y.d], -9223372036854775808 ≤ x ∧ x ≤ 9223372036854775807)
    (hn : n ≤ 999990) (hm : m + 21 ≤ c) (hm2 : m ≤ 1000000) (hl : ∀ e ∈ es, e.q.l.length < 10000) :
    Calls Tryz.prog 15 #[ptrTo g, .string t, .int .i64 k, .agg y.cells] w (AddDone B W g p mb n c m D F es t k y w) := by
  obtain ⟨xa, xb, xc, xd⟩ := y
  have hcs : P4.cells ⟨xa, xb, xc, xd⟩ = #[.int .i64 xa, .int .i64 xb, .int .i64 xc, .int .i64 xd] := rfl
  rw [hcs]
  obtain ⟨wa, hwa⟩ : ∃ wa, w.alloc (.cells #[.int .i64 xa, .int .i64 xb, .int .i64 xc, .int .i64 xd] 33) = wa := ⟨_, rfl⟩
  have hca : Calm w wa := by rw [← hwa]; exact (Calm.refl w).alloc _
  have Hpl := box (show wa.heap[w.heap.size]? = some (.cells #[.int .i64 xa, .int .i64 xb, .int .i64 xc, .int .i64 xd] 33 (0, 0)) from by rw [← hwa]; exact heap_new w _)
  have Ha := box (h.cale hca)
  have Hca := box hca
  have hri := box (right_any t k wa)
  have Hput := box (fun W' => Place_put xa xb xc xd W' hy)
  obtain ⟨sg, hsg⟩ : ∃ sg, putB (P4.nums ⟨xa, xb, xc, xd⟩) = sg := ⟨_, rfl⟩
  have Hsg := box hsg
  have hput2 : ∀ W', Calls Tryz.prog 61 #[.agg #[.int .i64 xa, .int .i64 xb, .int .i64 xc, .int .i64 xd]] W' fun e w' => e = .returned (.tuple #[.string sg, .bool (P4.ok ⟨xa, xb, xc, xd⟩)]) ∧ Calm W' w' := fun W' => by
    rw [← hsg]; exact Hput.out W'
  have Hput2 := box hput2
  obtain ⟨rc, hrc⟩ : ∃ rc, rightC t k = rc := ⟨_, rfl⟩
  have Hrc := box hrc
  rw [hrc] at hri
  have Hwf := box hwf
  have Hl := box hl
  clear h hca hrc hwf hl Hput hput2 hsg hy hcs
  by_cases h0 : rc = 0
  · subst h0
    obtain ⟨htop, hk0, hk3⟩ := right_zero Hrc.out
    obtain ⟨q, rfl⟩ : ∃ q : Nat, k = q := ⟨k.toNat, by omega⟩
    have hq3 : q < 3 := by omega
    obtain ⟨ok, hok⟩ : ∃ ok, P4.ok ⟨xa, xb, xc, xd⟩ = ok := ⟨_, rfl⟩
    rw [hok] at Hput2
    have Hok := box hok
    clear hok htop hk0 hk3
    go_enter Tryz.func15, Tryz.ntmps15
    go_wp2_with fail
    (try rw [hwa])
    refine hri.out.mono ?_
    rintro e w2 ⟨rfl, hc2⟩
    have H2 := box (Ha.out.cale hc2)
    have C2 := box (Hca.out.trans hc2)
    have Hp2 := box (heap_calm hc2 Hpl.out)
    have d0 := cell_of Hp2.out 0
    have d1 := cell_of Hp2.out 1
    have d2 := cell_of Hp2.out 2
    have d3 := cell_of Hp2.out 3
    have dlt := heap_lt Hp2.out
    clear hc2
    go_wp2_with fail
    refine (Hput2.out _).mono ?_
    rintro e w3 ⟨rfl, hc3⟩
    have H3 := box (H2.out.cale hc3)
    have C3 := box (C2.out.trans hc3)
    clear hc3 d0 d1 d2 d3 dlt
    cases ok
    · go_wp2_with fail
      go_ret2
      exact AddDone.mk ⟨.calm C3.out, .inr (.inl ⟨Hrc.out, Hok.out, rfl, H3.out⟩)⟩
    obtain ⟨wb, hwb⟩ : ∃ wb, w3.alloc (.cells #[.string t, .int .i64 (q : Int)] 119) = wb := ⟨_, rfl⟩
    have hcb : Calm w3 wb := by rw [← hwb]; exact (Calm.refl w3).alloc _
    have Hkey := box (show wb.heap[w3.heap.size]? = some (.cells #[.string t, .int .i64 (q : Int)] 119 (0, 0)) from by rw [← hwb]; exact heap_new w3 _)
    have HB := box (H3.out.cale hcb)
    have CB := box (C3.out.trans hcb)
    clear hcb
    go_upto_region 10 with fail
    (try rw [hwb])
    have q0 := cell_of Hkey.out 0
    have q1 := cell_of Hkey.out 1
    have qlt := heap_lt Hkey.out
    obtain ⟨c0, c1, clt⟩ := HB.out.cells
    rcases is_or es t (q : Int) with ⟨l1, e, l2, rfl, hk⟩ | hno
    · have hh := HB.out.hits hk (by unfold maxLen; omega) Hwf.out
      have Hk := box hk
      obtain ⟨r0, _, _, rlt⟩ := (HB.out.rows _ (List.mem_append_right _ (List.mem_cons_self ..))).cells
      clear hk
      go_wp2_with (first | go_quiet (fail) | fail)
      have HN := box (HB.out.cale ((Calm.refl wb).drewN nq))
      have KN := box (show KeptQ w (wb.drewN nq) from .calm (CB.out.drewN nq))
      refine (next_any _ (HN.out.rows _ (List.mem_append_right _ (List.mem_cons_self ..)))).mono ?_
      rintro e' w8 ⟨rfl, d, hd⟩
      have CD := box (show Calm _ w8 from by rw [hd]; exact (Calm.refl _).drewN d)
      have HD := box (HN.out.cale CD.out)
      clear hd r0 rlt
      obtain ⟨r0, _, _, rlt⟩ := (HD.out.rows _ (List.mem_append_right _ (List.mem_cons_self ..))).cells
      have happ := HD.out.append ⟨xa, xb, xc, xd⟩ Hok.out hn hm (Hl.out _ (List.mem_append_right _ (List.mem_cons_self ..)))
      rw [← put_ok Hok.out, Hsg.out] at happ
      have Happ := box happ
      clear happ
      go_wp2_with fail
      refine Happ.out.mono ?_
      rintro e' w9 ⟨D', R', F', v', rfl, hF, hK⟩
      have HF := box hF
      have HK := box ((KN.out.trans (.calm CD.out)).trans hK)
      clear hF hK Happ
      go_wp2_with fail
      go_ret2
      exact AddDone.mk ⟨HK.out, .inr (.inr (.inl ⟨Hrc.out, Hok.out, l1, e, l2, rfl, Hk.out, rfl, D', F', R', v', HF.out⟩))⟩
    · have hh := HB.out.misses hno (by unfold maxLen; omega) Hwf.out
      have Hno := box hno
      clear hno
      go_wp2_with (first | go_quiet (fail) | fail)
      have HN0 := box (HB.out.cale ((Calm.refl wb).drewN nq))
      have KN0 := box (show KeptQ w (wb.drewN nq) from .calm (CB.out.drewN nq))
      have hbg := box (begun_any HN0.out t q 0 ht hq3 (by omega) Hno.out (by omega) hm2)
      refine hbg.out.mono ?_
      rintro e' w4 ⟨x, r, v, F4, rfl, h4, k4⟩
      have HN := box h4
      have KN := box (KN0.out.trans k4)
      obtain ⟨r0, _, _, rlt⟩ := (h4.rows _ (List.mem_append_right _ (List.mem_cons_self ..))).cells
      clear h4 k4 hbg
      simp only [newQ] at r0 rlt
      go_wp2_with fail
      refine (next_any _ (HN.out.rows _ (List.mem_append_right _ (List.mem_cons_self ..)))).mono ?_
      rintro e' w8 ⟨rfl, d, hd⟩
      have CD := box (show Calm _ w8 from by rw [hd]; exact (Calm.refl _).drewN d)
      have HD := box (HN.out.cale CD.out)
      clear hd r0 rlt
      obtain ⟨r0, _, _, rlt⟩ := (HD.out.rows _ (List.mem_append_right _ (List.mem_cons_self ..))).cells
      simp only [newQ] at r0 rlt
      have happ := HD.out.append ⟨xa, xb, xc, xd⟩ Hok.out hn hm (by show (0 : Nat) < 10000; decide)
      rw [← put_ok Hok.out, Hsg.out] at happ
      have Happ := box happ
      clear happ
      go_wp2_with fail
      refine Happ.out.mono ?_
      rintro e' w9 ⟨D', R', F', v', rfl, hF, hK⟩
      have HF := box hF
      have HK := box ((KN.out.trans (.calm CD.out)).trans hK)
      clear hF hK Happ
      go_wp2_with fail
      go_ret2
      exact AddDone.mk ⟨HK.out, .inr (.inr (.inr ⟨Hrc.out, Hok.out, Hno.out, rfl, D', F', R', v', x, r, HF.out⟩))⟩
  · have hb : (rc != 0) = true := bne_iff_ne.2 h0
    go_enter Tryz.func15, Tryz.ntmps15
    go_wp2_with fail
    (try rw [hwa])
    refine hri.out.mono ?_
    rintro e w2 ⟨rfl, hc2⟩
    have H2 := box (Ha.out.cale hc2)
    have C2 := box (Hca.out.trans hc2)
    clear hc2
    go_wp2_with fail
    go_ret2
    exact AddDone.mk ⟨.calm C2.out, .inl ⟨by rw [Hrc.out]; exact h0, by rw [Hrc.out]; rfl, H2.out⟩⟩
end
end Go.Proofs.YtdepejneliacpaaGreatDoor.cq

/- Layer 10: New. -/
namespace Go.Proofs.YtdepejneliacpaaGreatDoor.cq
open Go.ChangeShapes Go.WideShapes Go.ChangeAt Go.RowKit Go.ChangeMaps
open Go.Proofs.YtdepejneliacpaaGreatDoor.dk Go.Proofs.YtdepejneliacpaaGreatDoor.sg Go.Proofs.YtdepejneliacpaaGreatDoor.en Go.Proofs.YtdepejneliacpaaGreatDoor.nm

section
variable {B : ByteArray → Option ByteArray} {W w w' : World} {g p mb n c m r : Nat} {D : DiskS} {R : RowS} {F : Nat → Prop} {v : Value} {es l1 l2 : List Qe} {e : Qe} {t : ByteArray} {k : Int}
/-- What 'New' leaves: no file of queues. -/
structure Bare (D E : DiskS) : Prop where
  gone : ∀ s, Lib.hasPrefix s.data.toList qN.data.toList = true → E.has s = false
  stay : ∀ s, Lib.hasPrefix s.data.toList qN.data.toList = false → E.bytes s = D.bytes s
theorem mem_names2 {D : DiskS} {n : ByteArray} : n ∈ D.names qN ↔ D.has n = true ∧ Lib.hasPrefix n.data.toList qN.data.toList = true := mem_names
theorem bare_self {D : DiskS} (h : D.names qN = []) : Bare D D :=
  ⟨fun s hs => (by
    cases hh : D.has s with
    | false => rfl
    | true =>
      have := mem_names2.2 ⟨hh, hs⟩
      rw [h] at this
      cases this), fun _ _ => rfl⟩
theorem bare_del {D E : DiskS} (h1 : ∀ s, s ∈ D.names qN → E.bytes s = none) (h2 : ∀ s, ¬ s ∈ D.names qN → E.bytes s = D.bytes s) : Bare D E :=
  ⟨fun s hs => (by
    by_cases hm : s ∈ D.names qN
    · rw [bytes_has, h1 s hm]; rfl
    · rw [bytes_has, h2 s hm, ← bytes_has]
      cases hh : D.has s with
      | false => rfl
      | true => exact absurd (mem_names2.2 ⟨hh, hs⟩) hm), fun s hs => h2 s (fun hm => (by rw [(mem_names2.1 hm).2] at hs; cases hs))⟩
theorem CqAt.made {D' : DiskS} {F' : Nat → Prop} (hd : DiskOk w p D' F' n) (ha : Able D' c m) (ht : Tab W) (hc : Calm W w) (hfW : ∀ b, F' b → W.heap.size ≤ b) (hb : Bare D D') :
    CqAt D.bytes W (w.heap.size + 1) p w.heap.size n c m D' F' [] ((w.alloc (.map #[] 0)).alloc (.cells #[ptrTo p, .map (some w.heap.size)] 108)) := by
  have h1 : Calm w ((w.alloc (.map #[] 0)).alloc (.cells #[ptrTo p, .map (some w.heap.size)] 108)) := ((Calm.refl w).alloc _).alloc _
  have hn := heap_new (w.alloc (.map #[] 0)) (.cells #[ptrTo p, .map (some w.heap.size)] 108)
  simp only [World.size_alloc] at hn
  refine ⟨hn, (MapOf.made w).calm ((Calm.refl _).alloc _), hd.calm h1, ha, ht, hc.trans h1, hfW, fun hf => ?_, ?_, hc.size, fun e he => (by cases he), .nil, fun s hs hp => (by rw [hb.gone s hp] at hs; cases hs), hb.stay⟩
  · have := hd.foot_lt _ hf; omega
  · have := hc.size; omega
set_option maxRecDepth 100000 in
set_option maxHeartbeats 2000000 in
theorem New_any (hd : DiskOk w p D F n) (ha : Able D c m) (ht : Tab W) (hc : Calm W w) (hfW : ∀ b, F b → W.heap.size ≤ b) (hn : n ≤ 1000000) (hm : m ≤ 1000000) :
    Calls Tryz.prog 13 #[ptrTo p] w fun e w' => ∃ g mb D' F', e = .returned (.tuple #[ptrTo g, .int .i64 0]) ∧ CqAt D.bytes W g p mb n c m D' F' [] w' ∧ Bare D D' ∧ KeptQ w w' := by
  have hls := box (List_any qN w hd.lies (fun f hf => Nat.le_trans (ha.file f hf) (by unfold maxLen; omega)) (by have := ha.files; omega))
  have hmm := @run_makeMap Tryz.prog
  have hlen : (D.names qN).length ≤ 1000000 := by
    have h1 : (D.names qN).length ≤ D.files.length := by
      unfold DiskS.names DiskS.namesL
      rw [List.length_map]
      refine Nat.le_trans (List.length_filter_le _ _) ?_
      rw [List.length_mergeSort, List.length_map]
      exact Nat.le_refl _
    have := ha.files
    omega
  have Hd := box hd
  have Ha := box ha
  have Ht := box ht
  have Hc := box hc
  have HfW := box hfW
  clear hd ha ht hc hfW
  by_cases h0 : D.names qN = []
  · go_enter Tryz.func13, Tryz.ntmps13
    go_wp2_with fail
    refine hls.out.mono ?_
    rintro e w1 ⟨v, rfl, hv, hc1, _⟩
    obtain ⟨a, cap, rfl, _⟩ := hv.uni
    rw [h0]
    have HC := box (CqAt.made (Hd.out.calm hc1) Ha.out Ht.out (Hc.out.trans hc1) HfW.out (bare_self h0))
    have HK := box (KeptQ.calm ((hc1.alloc (.map #[] 0)).alloc (.cells #[ptrTo p, .map (some w1.heap.size)] 108)))
    have HB := box (bare_self h0)
    clear hv hc1 h0 hls
    go_wp2_with fail
    go_ret2
    exact ⟨_, _, _, _, rfl, HC.out, HB.out, HK.out⟩
  · have hpos : 0 < (D.names qN).length := List.length_pos_iff.2 h0
    go_enter Tryz.func13, Tryz.ntmps13
    go_wp2_with fail
    refine hls.out.mono ?_
    rintro e w1 ⟨v, rfl, hv, hc1, hfr⟩
    obtain ⟨E, h1, _, ⟨h2, h3⟩, h4⟩ := Ha.out.delete (l := D.names qN) (fun s hs => (mem_names2.1 hs).1)
    have hap : Apart v F := fun a n c e _ hf => by
      have := hfr a n c e
      have := Hd.out.foot_lt _ hf
      omega
    have hdel := box (Delete_ok v (D.names qN) w1 (Hd.out.calm hc1) hn hv hap (by omega))
    obtain ⟨a, cap, rfl, _⟩ := hv.uni
    obtain ⟨L, hL⟩ : ∃ L, (D.names qN).length = L := ⟨_, rfl⟩
    rw [hL] at hdel hpos ⊢
    have t1 : decide (0 < L) = true := decide_eq_true hpos
    have Hc1 := box hc1
    have HE := box h1
    have HA := box h4
    have HB := box (bare_del h2 h3)
    clear hv hfr hap h1 h2 h3 h4 hc1 hL hls h0 hlen
    go_wp2_with fail
    refine hdel.out.mono ?_
    intro e w2 hx
    obtain ⟨rfl, F2, hd2, hs2⟩ := hx.at HE.out
    have HC := box (CqAt.made hd2 HA.out Ht.out (Below.trans (Hc.out.trans Hc1.out) (hs2.keeps.below (Hc.out.trans Hc1.out).size HfW.out)) (fun b hb => by
      rcases hs2.foot b hb with h1 | h1
      · exact HfW.out b h1
      · have := (Hc.out.trans Hc1.out).size; omega) HB.out)
    have HK := box (show KeptQ w w2 from fun T hT _ x cs hx => (hs2.keeps.block x (heap_lt (heap_calm Hc1.out hx)) (othq_disk hT (heap_calm Hc1.out hx) (Hd.out.calm Hc1.out))).trans (heap_calm Hc1.out hx))
    have HK2 := box (HK.out.trans (.calm (((Calm.refl w2).alloc (.map #[] 0)).alloc (.cells #[ptrTo p, .map (some w2.heap.size)] 108))))
    clear hx hd2 hs2 hdel
    go_wp2_with fail
    go_ret2
    exact ⟨_, _, _, _, rfl, HC.out, HB.out, HK2.out⟩
theorem NewNil_any (w : World) : Calls Tryz.prog 13 #[.pointer none] w fun e w' => e = .returned (.tuple #[.pointer none, .int .i64 1]) ∧ w = w' := by
  go_enter Tryz.func13, Tryz.ntmps13
  go_wp2_with fail
  go_ret2
  exact ⟨rfl, rfl⟩
end
end Go.Proofs.YtdepejneliacpaaGreatDoor.cq

/- Layer 10: queues as the laws see them; the example. -/
namespace Go.Proofs.YtdepejneliacpaaGreatDoor.cq
open Go.ChangeShapes Go.WideShapes Go.ChangeAt Go.RowKit Go.ChangeMaps
open Go.Proofs.YtdepejneliacpaaGreatDoor.dk Go.Proofs.YtdepejneliacpaaGreatDoor.sg Go.Proofs.YtdepejneliacpaaGreatDoor.en Go.Proofs.YtdepejneliacpaaGreatDoor.nm

/-- Queues behind so many calls, over a disk of so many bytes. -/
structure Cq (W : World) (g p c k : Nat) (qs : List QS) (w : World) : Prop where
  at_ : ∃ B mb n m D F es, CqAt B W g p mb n c m D F es w ∧ es.map (·.q) = qs ∧ n ≤ k ∧ m ≤ 21 * k ∧ ∀ q ∈ qs, q.l.length ≤ k
section
variable {B : ByteArray → Option ByteArray} {W w w' : World} {g p c k r : Nat} {v : Value} {qs q1 q2 : List QS} {q : QS} {t : ByteArray} {j : Int}
theorem Cq.calm (h : Cq W g p c k qs w) (hc : Calm w w') : Cq W g p c k qs w' := by
  obtain ⟨B, mb, n, m, D, F, es, h1, h2⟩ := h.at_
  exact ⟨B, mb, n, m, D, F, es, h1.cale hc, h2⟩
theorem Cq.owns (h : Cq W g p c k qs w) : Calm W w := by
  obtain ⟨B, mb, n, m, D, F, es, h1, h2⟩ := h.at_
  exact h1.calm
theorem Cq.more (h : Cq W g p c k qs w) : Cq W g p c (k + 1) qs w := by
  obtain ⟨B, mb, n, m, D, F, es, h1, h2, h3, h4, h5⟩ := h.at_
  exact ⟨B, mb, n, m, D, F, es, h1, h2, by omega, by omega, fun q hq => by have := h5 q hq; omega⟩
/-- A queue among them. -/
theorem split_map {es : List Qe} (h : es.map (·.q) = q1 ++ q :: q2) : ∃ l1 e l2, es = l1 ++ e :: l2 ∧ l1.map (·.q) = q1 ∧ e.q = q ∧ l2.map (·.q) = q2 := by
  obtain ⟨l1, l', rfl, h1, h2⟩ := List.map_eq_append_iff.1 h
  obtain ⟨e, l2, rfl, h3, h4⟩ := List.map_eq_cons_iff.1 h2
  exact ⟨l1, e, l2, rfl, h1, h3, h4⟩
theorem Cq.add (h : Cq W g p c k qs w) (t : ByteArray) (j : Int) (y : P4) (ht : t.size ≤ 100) (hwf : (Lit.int .i64 j).wf = true) (hy : ∀ x ∈ [y.a, y.b, y.c, y.d], -9223372036854775808 ≤ x ∧ x ≤ 9223372036854775807) (hk : k ≤ 9000) (hc : 21 * k + 21 ≤ c) :
    Calls Tryz.prog 15 #[ptrTo g, .string t, .int .i64 j, .agg y.cells] w fun e w' => KeptQ w w' ∧
      ((rightC t j ≠ 0 ∧ e = .returned (.tuple #[.int .i64 0, .int .i64 (rightC t j)]) ∧ Cq W g p c k qs w') ∨ (rightC t j = 0 ∧ y.ok = false ∧ e = .returned (.tuple #[.int .i64 0, .int .i64 1]) ∧ Cq W g p c k qs w') ∨
      (rightC t j = 0 ∧ y.ok = true ∧ ∃ q1 q q2, qs = q1 ++ q :: q2 ∧ q.is t j ∧ e = .returned (.tuple #[.int .i64 (q.next : Int), .int .i64 0]) ∧ Cq W g p c (k + 1) (q1 ++ q.add y :: q2) w') ∨
      (rightC t j = 0 ∧ y.ok = true ∧ (∀ q ∈ qs, ¬ q.is t j) ∧ e = .returned (.tuple #[.int .i64 0, .int .i64 0]) ∧ Cq W g p c (k + 1) (qs ++ [(⟨t, j.toNat, 0, 0, []⟩ : QS).add y]) w')) := by
  obtain ⟨B, mb, n, m, D, F, es, h1, h2, h3, h4, h5⟩ := h.at_
  refine (Add_any h1 t j y ht hwf hy (by omega) (by omega) (by omega) (fun e he => by have := h5 e.q (by rw [← h2]; exact List.mem_map_of_mem he); omega)).mono ?_
  rintro e w' ⟨hK, ⟨a, rfl, b⟩ | ⟨a, a2, rfl, b⟩ | ⟨a, a2, l1, e1, l2, rfl, hk1, rfl, D', F', R', v', b⟩ | ⟨a, a2, hno, rfl, D', F', R', v', b', r, b⟩⟩
  · exact ⟨hK, .inl ⟨a, rfl, B, mb, n, m, D, F, es, b, h2, h3, h4, h5⟩⟩
  · exact ⟨hK, .inr (.inl ⟨a, a2, rfl, B, mb, n, m, D, F, es, b, h2, h3, h4, h5⟩)⟩
  · refine ⟨hK, .inr (.inr (.inl ⟨a, a2, l1.map (·.q), e1.q, l2.map (·.q), by rw [← h2]; simp, hk1, rfl, B, mb, n + 1, m + 21, D', F', _, b, by simp, by omega, by omega, fun q hq => ?_⟩))⟩
    have h6 : ∀ q ∈ (l1 ++ e1 :: l2).map (·.q), q.l.length ≤ k := by rw [h2]; exact h5
    rcases List.mem_append.1 hq with hq | hq
    · have := h6 q (by rw [List.map_append]; exact List.mem_append_left _ hq); omega
    rcases List.mem_cons.1 hq with rfl | hq
    · have := h6 e1.q (by rw [List.map_append]; exact List.mem_append_right _ (List.mem_cons_self ..))
      show (e1.q.l ++ [y]).length ≤ _
      rw [List.length_append]; simp only [List.length_singleton]; omega
    · have := h6 q (by rw [List.map_append]; exact List.mem_append_right _ (List.mem_cons_of_mem _ hq)); omega
  · refine ⟨hK, .inr (.inr (.inr ⟨a, a2, fun q hq => ?_, rfl, B, mb, n + 1, m + 21, D', F', _, b, by simp [h2], by omega, by omega, fun q hq => ?_⟩))⟩
    · rw [← h2] at hq
      obtain ⟨e, he, rfl⟩ := List.mem_map.1 hq
      exact hno e he
    · rcases List.mem_append.1 hq with hq | hq
      · have := h5 q hq; omega
      · rw [List.mem_singleton] at hq; rw [hq]
        show ([] ++ [y]).length ≤ _
        simp
theorem Cq.base (h : Cq W g p c k qs w) (t : ByteArray) (j a : Int) (ht : t.size ≤ 100) (hwf : (Lit.int .i64 j).wf = true) (hk : k ≤ 9000) :
    Calls Tryz.prog 18 #[ptrTo g, .string t, .int .i64 j, .int .i64 a] w fun e w' => KeptQ w w' ∧
      ((rightC t j ≠ 0 ∧ e = .returned (.int .i64 (rightC t j)) ∧ Cq W g p c k qs w') ∨ (rightC t j = 0 ∧ (a < 0 ∨ 1099511627776 < a) ∧ e = .returned (.int .i64 2) ∧ Cq W g p c k qs w') ∨
      (rightC t j = 0 ∧ 0 ≤ a ∧ a ≤ 1099511627776 ∧ (∃ q ∈ qs, q.is t j) ∧ e = .returned (.int .i64 10) ∧ Cq W g p c k qs w') ∨
      (rightC t j = 0 ∧ 0 ≤ a ∧ a ≤ 1099511627776 ∧ (∀ q ∈ qs, ¬ q.is t j) ∧ e = .returned (.int .i64 0) ∧ Cq W g p c k (qs ++ [⟨t, j.toNat, a.toNat, a.toNat, []⟩]) w')) := by
  obtain ⟨B, mb, n, m, D, F, es, h1, h2, h3, h4, h5⟩ := h.at_
  refine (Base_any h1 t j a ht hwf (by omega) (by omega)).mono ?_
  rintro e w' ⟨hK, ⟨a1, rfl, b⟩ | ⟨a1, a2, rfl, b⟩ | ⟨a1, a2, a3, ⟨e1, he1, hk1⟩, rfl, b⟩ | ⟨a1, a2, a3, hno, rfl, x, r, v, F', b⟩⟩
  · exact ⟨hK, .inl ⟨a1, rfl, B, mb, n, m, D, F, es, b, h2, h3, h4, h5⟩⟩
  · exact ⟨hK, .inr (.inl ⟨a1, a2, rfl, B, mb, n, m, D, F, es, b, h2, h3, h4, h5⟩)⟩
  · exact ⟨hK, .inr (.inr (.inl ⟨a1, a2, a3, ⟨e1.q, by rw [← h2]; exact List.mem_map_of_mem he1, hk1⟩, rfl, B, mb, n, m, D, F, es, b, h2, h3, h4, h5⟩))⟩
  · refine ⟨hK, .inr (.inr (.inr ⟨a1, a2, a3, fun q hq => ?_, rfl, B, mb, n, m, D, F', _, b, by simp [h2, newQ], h3, h4, fun q hq => ?_⟩))⟩
    · rw [← h2] at hq
      obtain ⟨e, he, rfl⟩ := List.mem_map.1 hq
      exact hno e he
    · rcases List.mem_append.1 hq with hq | hq
      · exact h5 q hq
      · rw [List.mem_singleton] at hq; rw [hq]
        exact Nat.zero_le _
theorem Cq.seek (h : Cq W g p c k (q1 ++ q :: q2) w) (hq : q.is t j) (ht : t.size ≤ 100) (hwf : (Lit.int .i64 j).wf = true) (born : Int) :
    Calls Tryz.prog 16 #[ptrTo g, .string t, .int .i64 j, .int .i64 born] w fun e w' => e = .returned (.int .i64 ((q.far fun p => decide (p.d < born) : Nat) : Int)) ∧ Calm w w' := by
  obtain ⟨B, mb, n, m, D, F, es, h1, h2, _⟩ := h.at_
  obtain ⟨l1, e, l2, rfl, _, rfl, _⟩ := split_map h2
  exact Seek_found h1 hq (by unfold maxLen; omega) hwf born
theorem Cq.at (h : Cq W g p c k (q1 ++ q :: q2) w) (hq : q.is t j) (ht : t.size ≤ 100) (hwf : (Lit.int .i64 j).wf = true) (a : Int) :
    Calls Tryz.prog 17 #[ptrTo g, .string t, .int .i64 j, .int .i64 a] w fun e w' => AtIs q a e ∧ Calm w w' := by
  obtain ⟨B, mb, n, m, D, F, es, h1, h2, _⟩ := h.at_
  obtain ⟨l1, e, l2, rfl, _, rfl, _⟩ := split_map h2
  exact At_found h1 hq (by unfold maxLen; omega) hwf a
theorem Cq.least (h : Cq W g p c k (q1 ++ q :: q2) w) (hq : q.is t j) (ht : t.size ≤ 100) (hwf : (Lit.int .i64 j).wf = true) :
    Calls Tryz.prog 20 #[ptrTo g, .string t, .int .i64 j] w fun e w' => e = .returned (.int .i64 (q.least : Int)) ∧ Calm w w' := by
  obtain ⟨B, mb, n, m, D, F, es, h1, h2, _⟩ := h.at_
  obtain ⟨l1, e, l2, rfl, _, rfl, _⟩ := split_map h2
  exact least_found h1 hq (by unfold maxLen; omega) hwf
theorem Cq.next (h : Cq W g p c k (q1 ++ q :: q2) w) (hq : q.is t j) (ht : t.size ≤ 100) (hwf : (Lit.int .i64 j).wf = true) :
    Calls Tryz.prog 19 #[ptrTo g, .string t, .int .i64 j] w fun e w' => e = .returned (.int .i64 (q.next : Int)) ∧ Calm w w' := by
  obtain ⟨B, mb, n, m, D, F, es, h1, h2, _⟩ := h.at_
  obtain ⟨l1, e, l2, rfl, _, rfl, _⟩ := split_map h2
  exact next_found h1 hq (by unfold maxLen; omega) hwf
theorem seek_none (h : Cq W g p c k qs w) (hno : ∀ q ∈ qs, ¬ q.is t j) (ht : t.size ≤ 100) (hwf : (Lit.int .i64 j).wf = true) (born : Int) :
    Calls Tryz.prog 16 #[ptrTo g, .string t, .int .i64 j, .int .i64 born] w fun e w' => e = .returned (.int .i64 0) ∧ Calm w w' := by
  obtain ⟨B, mb, n, m, D, F, es, h1, h2, _⟩ := h.at_
  have ho := box (of_none h1 (fun e he => hno e.q (by rw [← h2]; exact List.mem_map_of_mem he)) (by unfold maxLen; omega) hwf)
  clear h h1 h2 hno ht hwf
  go_enter Tryz.func16, Tryz.ntmps16
  go_wp2_with fail
  refine ho.out.mono ?_
  rintro e' w1 ⟨x, rfl, hx, hc1⟩
  have c2 := cell_of hx 2
  have hlt := heap_lt hx
  have Hx := box hx
  have Hc := box hc1
  clear hx hc1 ho
  go_wp2_with fail
  go_loopw [10] (fun av wr => av = .int .i64 0 ∧ wr = w1) (fun _ _ => 0)
  case atStart => exact ⟨rfl, rfl⟩
  case round =>
    obtain ⟨rfl, rfl⟩ := hrel
    go_wp2_with fail
    refine (next_no x _ Hx.out).mono ?_
    rintro e' w2 ⟨rfl, d, rfl⟩
    go_wp2_with fail
    go_ret
    exact ⟨rfl, Hc.out.drewN d⟩
/-- New queues over a new disk. -/
theorem new_new {F : Nat → Prop} (hd : DiskOk w p (dk.new c) F 0) (ht : Tab W) (hcW : Calm W w) (hfW : ∀ b, F b → W.heap.size ≤ b) (hc : c ≤ 16777216) :
    Calls Tryz.prog 13 #[ptrTo p] w fun e w' => ∃ g, e = .returned (.tuple #[ptrTo g, .int .i64 0]) ∧ Cq W g p c 0 [] w' ∧ KeptQ w w' := by
  refine (New_any hd (Able.new c hc) ht hcW hfW (by decide) (by decide)).mono ?_
  rintro e w' ⟨g, mb, D', F', rfl, h1, _, hk⟩
  exact ⟨g, rfl, ⟨_, mb, 0, 0, D', F', [], h1, rfl, Nat.le_refl _, Nat.le_refl _, fun q hq => by cases hq⟩, hk⟩
abbrev aN : ByteArray := ⟨#[97]⟩
abbrev y0 : P4 := ⟨0, 0, 0, 0⟩
theorem right_a : rightC aN 0 = 0 := by kernel_rfl
set_option maxRecDepth 100000 in
set_option maxHeartbeats 4000000 in
theorem awake_any (W : World) (ht : Tab W) : Calls Tryz.prog 12 #[] W fun e w' => e = .returned (.bool true) ∧ Calm W w' := by
  have HT := box ht
  clear ht
  go_enter Tryz.func12, Tryz.ntmps12
  go_wp2_with fail
  refine (New_ok _ 10000).mono ?_
  rintro e w1 ⟨p, F1, rfl, hd1, hc1, hF1⟩
  have hnew := box (new_new (c := 10000) hd1 HT.out hc1 hF1 (by decide))
  clear hd1 hc1 hF1
  go_wp2_with fail
  refine hnew.out.mono ?_
  rintro e w2 ⟨g, rfl, hQ2, _⟩
  have HQ2 := box hQ2
  clear hQ2 hnew
  have hadd := box (show Calls Tryz.prog _ #[ptrTo g, .string aN, .int .i64 0, .agg #[.int .i64 0, .int .i64 0, .int .i64 0, .int .i64 0]] w2 _ from HQ2.out.add aN 0 y0 (by decide) (by decide) (by decide) (by decide) (by decide))
  go_wp2_with fail
  refine hadd.out.mono ?_
  rintro e w3 ⟨_, ⟨h, _⟩ | ⟨_, h, _⟩ | ⟨_, _, q1, q, q2, h, _⟩ | ⟨_, _, _, rfl, hQ3⟩⟩
  · exact absurd right_a h
  · exact absurd h (by decide)
  · exact absurd (congrArg List.length h) (by simp)
  have HQ3 := box hQ3
  clear hQ3 hadd
  have hadd := box (show Calls Tryz.prog _ #[ptrTo g, .string aN, .int .i64 0, .agg #[.int .i64 0, .int .i64 0, .int .i64 0, .int .i64 0]] w3 _ from HQ3.out.add aN 0 y0 (by decide) (by decide) (by decide) (by decide) (by decide))
  go_wp2_with fail
  refine hadd.out.mono ?_
  rintro e w4 ⟨_, ⟨h, _⟩ | ⟨_, h, _⟩ | ⟨_, _, q1, q, q2, h, _, rfl, hQ4⟩ | ⟨_, _, h, _⟩⟩
  · exact absurd right_a h
  · exact absurd h (by decide)
  · have hq1 : q.next = 1 := by
      have hl := congrArg List.length h
      simp at hl
      have e1 : q1 = [] := List.eq_nil_of_length_eq_zero (by omega)
      subst e1
      simp at h
      rw [← h.1]
      rfl
    have HQ4 := box hQ4
    rw [hq1]
    clear hQ4 hadd h hq1
    go_wp2_with fail
    go_ret
    exact ⟨rfl, HQ4.out.owns⟩
  · exact absurd (show QS.is ((⟨aN, (0 : Int).toNat, 0, 0, []⟩ : QS).add y0) aN 0 from ⟨rfl, rfl⟩) (h _ (by simp))
end
end Go.Proofs.YtdepejneliacpaaGreatDoor.cq
