/- Layer 12: what comes of a message that failed. -/
import Derived.Test.YtofffmnkoelifaaRows
import Derived.WalkKit
import Derived.ProofKit
import Derived.OpenShut
import Derived.Handy
import Derived.Deep.LoopGhost
import Derived.Lib.Hide
import Derived.Lib.Strings
import Derived.SizedLaws
import Derived.Deep.Slices
import Derived.Shelf.SlIter.Nil
import Derived.Ground.GgzProg
import Derived.Shelf.SortM.Plain
import Derived.Shelf.SortM.SortNone
import Derived.Ground.SlgmProg
import Derived.Test.YtofffmnkoelifaaProg
import Derived.Shelf.Strings.Builder1
import Derived.Shelf.Strings.Builder2
import Derived.Shelf.Small.Bits
import Derived.Shelf.Small.Wraps
import Derived.Shelf.Strings.BuilderF
import Derived.Shelf.Strings.BuilderK
import Derived.Shelf.Strings.Builder2Cap
import Derived.Shelf.Strconv.Itoa0
import Derived.Shelf.Sort.Plain
import Derived.Shelf.GgClosure.StringsIndexFunc
import Derived.Ground.GgwProg
import Derived.Shelf.GgClosure.StringsIndexFuncTop
import Derived.Shelf.GgClosure.StringsRunes
import Derived.Shelf.Strings.Prefix
import Derived.Shelf.Bits.Mul64
import Derived.Shelf.Strings.Repeat
import Derived.Shelf.Strings.BuilderCap
import Derived.Shelf.Slices.Equal
import Derived.Ground.Names2Prog
import Derived.Shelf.Slices.Clone
import Derived.Shelf.Slices.CompactS
import Derived.Shelf.Slices.SearchI
import Derived.Shelf.Slices.Cells
import Derived.Shelf.Slices.In.SortNone
import Derived.Shelf.Slices.Empties2
import Derived.Ground.SlgnProg
import Derived.Shelf.SlicesE.Equal
import Derived.Shelf.SlicesE.Compact
import Derived.Shelf.SlicesE.Clone
import Derived.Ground.SlgfProg
import Derived.Shelf.SlicesE.IndexFunc
import Derived.Shelf.SlicesE.DeleteFunc
import Derived.RangeFuncBox
import Derived.RangeFuncLeaves
import Derived.Shelf.Abstract
import Derived.OwnWalkIn
import Derived.TacticsInMore
import Derived.LoopNIn
import Derived.LoopIn
import Derived.Maps.AppendAt
import Derived.Lib.SlicesCompact
import Derived.Deep.QuietTactic
import Derived.BigQuiet
import Derived.Laws.ResultCell
import Derived.Laws.Rows
import Derived.Deep.RegionHeld3
import Derived.Test.YtofffmnkoelifaaPk8
namespace Go.Proofs.Ytofffmnkoelifaa.rc
open Go.ChangeShapes Go.WideShapes Go.ChangeAt Go.RowKit Go.Shelf
open Go.Proofs.Ytofffmnkoelifaa.nm Go.Proofs.Ytofffmnkoelifaa.vs

theorem strs_lt {w : World} {v : Value} {l : List ByteArray} (h : StrsAt w v l) : ∀ a n c, v = .slice (some a) n c → 0 < n → a.block < w.heap.size := fun a n c e hn => by
  rcases h with ⟨rfl, _, _, rfl⟩ | ⟨b, off, cap, rfl, hc⟩
  · cases e; omega
  · cases e; exact World.block_lt_of_cell? w ⟨b, off + 0, none⟩ (hc 0 hn)
def timeB (x : Int) : Bool := decide (0 ≤ x) && decide (x ≤ 1099511626776)
set_option maxRecDepth 100000 in
set_option maxHeartbeats 2000000 in
theorem time_any (b : Nat) (x y : Int) (w : World) (h : w.heap[b]? = some (.cells #[.int .i64 x, .int .i64 y] 3 (0, 0))) :
    Calls Try.prog 42 #[.slice (some ⟨b, 0, none⟩) 2 2] w fun e w' => e = .returned (.bool (timeB x && timeB y)) ∧ w = w' := by
  have c0 := cell_of h 0
  have c1 := cell_of h 1
  have hlt := heap_lt h
  clear h
  go_enter Try.func42, Try.ntmps42
  go_wp2_with fail
  go_loopw [7] (fun i wr => wr = w ∧ ((i = .int .i64 0) ∨ (i = .int .i64 1 ∧ timeB x = true) ∨ (i = .int .i64 2 ∧ timeB x = true ∧ timeB y = true))) (fun i _ => 2 - (intOf i).toNat)
  case atStart => exact ⟨rfl, .inl rfl⟩
  case round =>
    obtain ⟨rfl, hrel⟩ := hrel
    rcases hrel with rfl | ⟨rfl, hx⟩ | ⟨rfl, hx, hy⟩
    · cases hx : timeB x
      · have hx' := hx
        unfold timeB at hx'
        simp at hx'
        go_wp2_with fail
        all_goals first | (go_ret; exact ⟨ret_bool (by simp [hx]), rfl⟩) | omega
      · have hx' := hx
        unfold timeB at hx'
        simp at hx'
        obtain ⟨hx1, hx2⟩ := hx'
        go_wp2_with fail
        go_roundw
        case rel => simp [hx]
        case measure => simp [intOf]
    · cases hy : timeB y
      · have hy' := hy
        unfold timeB at hy'
        simp at hy'
        go_wp2_with fail
        all_goals first | (go_ret; exact ⟨ret_bool (by simp [hx, hy]), rfl⟩) | omega
      · have hy' := hy
        unfold timeB at hy'
        simp at hy'
        obtain ⟨hx1, hx2⟩ := hy'
        go_wp2_with fail
        go_roundw
        case rel => simp [hx, hy]
        case measure => simp [intOf]
    · go_wp2_with fail
      go_ret
      exact ⟨ret_bool (by simp [hx, hy]), rfl⟩
def delayN (r : Int) : Int := 2 ^ r.toNat
theorem delay_le (r : Int) (h1 : 1 ≤ r) (h4 : r ≤ 4) : 2 ≤ delayN r ∧ delayN r ≤ 16 := by
  have : r = 1 ∨ r = 2 ∨ r = 3 ∨ r = 4 := by omega
  rcases this with rfl | rfl | rfl | rfl <;> decide
theorem Delay_any (r : Int) (w : World) (h1 : 1 ≤ r) (h4 : r ≤ 4) : Calls Try.prog 22 #[.int .i64 r] w fun e w' => e = .returned (.int .i64 (delayN r)) ∧ w = w' := by
  have : r = 1 ∨ r = 2 ∨ r = 3 ∨ r = 4 := by omega
  rcases this with rfl | rfl | rfl | rfl
  all_goals
    go_enter Try.func22, Try.ntmps22
    go_wp2_with fail
    go_ret
    exact ⟨rfl, rfl⟩
/-- May it come again? -/
def AgainOk (m : MsgS) (id : Int) (g : ByteArray) (now : Int) : Prop := groupB g = true ∧ Right3 m ∧ timeB id = true ∧ timeB now = true
def againS (m : MsgS) (id : Int) (g : ByteArray) (now : Int) : MsgS :=
  if 4 ≤ m.retry then { m with kind := 1, queue := 0, due := 0, ref := 0, born := now, topic := ownS deadC g }
  else { m with kind := 2, queue := 0, due := now + delayN (m.retry + 1), retry := m.retry + 1, ref := id, born := now, topic := ownS retryC g }
abbrev zeroA : Array Value := #[.int .i64 0, .int .i64 0, .int .i64 0, .int .i64 0, .int .i64 0, .int .i64 0, .string ⟨#[]⟩, .string ⟨#[]⟩, .string ⟨#[]⟩, .slice none 0 0]
def AgainDone (m : MsgS) (id : Int) (g : ByteArray) (now : Int) (w : World) (e : Ending) (w' : World) : Prop :=
  ∃ v c, e = .returned (.tuple #[v, .int .i64 c]) ∧ Calm w w' ∧ (¬ AgainOk m id g now → c = (if groupB g then 1 else 11) ∧ v = .agg zeroA) ∧ (AgainOk m id g now → c = 0 ∧ ∃ kv', v = .agg (msgA (againS m id g now) kv') ∧ StrsAt w' kv' m.keys ∧ ∀ a n c, kv' = .slice (some a) n c → 0 < n → w.heap.size ≤ a.block)
theorem ret_msg {fn : Func} {p u : Tmp} (h : fn.results = #[.cell p 33, .tmp u]) (tmps : Array Value) (w : World) (b : Nat) (cs : Array Value)
    (hp : tmps.getD p undef = .pointer (some ⟨b, 0, none⟩)) (hg : w.heap[b]? = some (.cells cs 33 (0, 0))) (hc : cs.size = 10) :
    (results fn tmps).run Try.prog w = .ok (.tuple #[.agg cs, tmps.getD u undef]) w := by
  rw [results_cell_tmp h, hp]
  have hload := run_loadVar_row (P := Try.prog) w b 33 33 cs (0, 0) _ hg Try.underlying33 rfl (by rw [msgSize, hc])
  simp [asAddr, hload, Result.andThen]
set_option maxRecDepth 100000 in
set_option maxHeartbeats 8000000 in
theorem Again_any (m : MsgS) (kv : Value) (id : Int) (g : ByteArray) (now : Int) (w : World) (hk : StrsAt w kv m.keys) (hs : ∀ s ∈ m.keys, s.size ≤ maxLen) (hl : m.keys.length ≤ 1000000) (h3 : m.kind = 1 ∨ m.kind = 3) (hid : -9223372036854775808 ≤ id ∧ id ≤ 9223372036854775807) :
    Calls Try.prog 17 #[.agg (msgA m kv), .int .i64 id, .string g, .int .i64 now] w (AgainDone m id g now w) := by
  have hright := box (fun W (hW : Calm w W) => Right3_any m kv W (hk.calm hW) hs (by omega))
  have hcopy := box (fun W (hW : Calm w W) => Copy_any m kv W (hk.calm hW) hl)
  clear hk hs hl
  obtain ⟨kd, q, du, rt, rf, bn, tp, tg, bd, ks⟩ := m
  simp only at h3
  obtain ⟨W1, hW1⟩ : ∃ W1, (w.alloc (.cells (msgA ⟨kd, q, du, rt, rf, bn, tp, tg, bd, ks⟩ kv) 33)).alloc (.cells zeroA 33) = W1 := ⟨_, rfl⟩
  have Hn := box (show W1.heap[w.heap.size]? = some (.cells (msgA ⟨kd, q, du, rt, rf, bn, tp, tg, bd, ks⟩ kv) 33 (0, 0)) by rw [← hW1]; exact heap_old _ _ (heap_new w _))
  have Hz := box (show W1.heap[w.heap.size + 1]? = some (.cells zeroA 33 (0, 0)) by rw [← hW1]; have := heap_new (w.alloc (.cells (msgA ⟨kd, q, du, rt, rf, bn, tp, tg, bd, ks⟩ kv) 33)) (.cells zeroA 33); rwa [World.size_alloc] at this)
  have Ha := box (show Calm w W1 by rw [← hW1]; exact ((Calm.refl w).alloc _).alloc _)
  go_enter Try.func17, Try.ntmps17
  go_wp2_with fail
  clear hW1
  refine (Group_any g W1).mono ?_
  rintro e w2 ⟨rfl, hc2⟩
  have J2 := box (heap_calm hc2 Hn.out)
  have Z2 := box (heap_calm hc2 Hz.out)
  have C2 := box (Ha.out.trans hc2)
  have hK2 := hc2
  clear hc2
  cases hg : groupB g
  · have z0 := cell_of Z2.out 0
    have z1 := cell_of Z2.out 1
    have z2 := cell_of Z2.out 2
    have z3 := cell_of Z2.out 3
    have z4 := cell_of Z2.out 4
    have z5 := cell_of Z2.out 5
    have z6 := cell_of Z2.out 6
    have z7 := cell_of Z2.out 7
    have z8 := cell_of Z2.out 8
    have z9 := cell_of Z2.out 9
    have f0 := free_of Z2.out 0
    have f1 := free_of Z2.out 1
    have f2 := free_of Z2.out 2
    have f3 := free_of Z2.out 3
    have f4 := free_of Z2.out 4
    have f5 := free_of Z2.out 5
    have f6 := free_of Z2.out 6
    have f7 := free_of Z2.out 7
    have f8 := free_of Z2.out 8
    have f9 := free_of Z2.out 9
    have hlz := heap_lt Z2.out
    have Hfin := box (put_msg Z2.out rfl (.int .i64 0) (.int .i64 0) (.int .i64 0) (.int .i64 0) (.int .i64 0) (.int .i64 0) (.string ⟨#[]⟩) (.string ⟨#[]⟩) (.string ⟨#[]⟩) (.slice none 0 0))
    have Hcal := box (calm_put_msg C2.out (b := w.heap.size + 1) (by omega) (.int .i64 0) (.int .i64 0) (.int .i64 0) (.int .i64 0) (.int .i64 0) (.int .i64 0) (.string ⟨#[]⟩) (.string ⟨#[]⟩) (.string ⟨#[]⟩) (.slice none 0 0))
    go_wp2_with fail
    (try simp only [Exit.inBlock, Exit.then])
    refine bodyPost_ret (ret_msg rfl _ _ (w.heap.size + 1) _ rfl Hfin.out rfl) rfl ?_
    exact ⟨_, 11, rfl, Hcal.out, fun _ => ⟨by rw [hg]; rfl, rfl⟩, fun h => by have := h.1; rw [hg] at this; cases this⟩
  · have Hbad := box (fun (W : World) (hW : Calm W1 W) => And.intro (put_msg (heap_calm hW Hz.out) rfl (.int .i64 0) (.int .i64 0) (.int .i64 0) (.int .i64 0) (.int .i64 0) (.int .i64 0) (.string ⟨#[]⟩) (.string ⟨#[]⟩) (.string ⟨#[]⟩) (.slice none 0 0)) (calm_put_msg (Ha.out.trans hW) (b := w.heap.size + 1) (by omega) (.int .i64 0) (.int .i64 0) (.int .i64 0) (.int .i64 0) (.int .i64 0) (.int .i64 0) (.string ⟨#[]⟩) (.string ⟨#[]⟩) (.string ⟨#[]⟩) (.slice none 0 0)))
    have HJ := box (fun (W : World) (hW : Calm W1 W) => And.intro (heap_calm hW Hn.out) (heap_calm hW Hz.out))
    have K2 := box hK2
    clear hK2
    have c0 := cell_of J2.out 0
    have c1 := cell_of J2.out 1
    have c2 := cell_of J2.out 2
    have c3 := cell_of J2.out 3
    have c4 := cell_of J2.out 4
    have c5 := cell_of J2.out 5
    have c6 := cell_of J2.out 6
    have c7 := cell_of J2.out 7
    have c8 := cell_of J2.out 8
    have c9 := cell_of J2.out 9
    have hlt := heap_lt J2.out
    go_wp2_with fail
    refine (hright.out _ C2.out).mono ?_
    by_cases hr : Right3 ⟨kd, q, du, rt, rf, bn, tp, tg, bd, ks⟩
    · rw [decide_eq_true hr]
      rintro e w3 ⟨rfl, hc3⟩
      have K3 := box (K2.out.trans hc3)
      have Hr := box hr
      clear hr hc3 hlt c0 c1 c2 c3 c4 c5 c6 c7 c8 c9
      have J3 := box (HJ.out w3 K3.out).1
      have Z3 := box (HJ.out w3 K3.out).2
      have C3 := box (Ha.out.trans K3.out)
      have c0 := cell_of J3.out 0
      have hlt := heap_lt J3.out
      have htime := box (time_any w3.heap.size id now (w3.alloc (.cells #[.int .i64 id, .int .i64 now] 3)) (heap_new w3 _))
      have K4 := box (K3.out.trans ((Calm.refl w3).alloc (.cells #[.int .i64 id, .int .i64 now] 3)))
      have J4 := box (HJ.out _ K4.out).1
      have Z4 := box (HJ.out _ K4.out).2
      have C4 := box (Ha.out.trans K4.out)
      cases htm : (timeB id && timeB now)
      · rcases h3 with rfl | rfl
        all_goals
          go_wp2_with fail
          refine htime.out.mono ?_
          rw [htm]
          rintro e w4 ⟨rfl, rfl⟩
          have z0 := cell_of Z4.out 0
          have z1 := cell_of Z4.out 1
          have z2 := cell_of Z4.out 2
          have z3 := cell_of Z4.out 3
          have z4 := cell_of Z4.out 4
          have z5 := cell_of Z4.out 5
          have z6 := cell_of Z4.out 6
          have z7 := cell_of Z4.out 7
          have z8 := cell_of Z4.out 8
          have z9 := cell_of Z4.out 9
          have f0 := free_of Z4.out 0
          have f1 := free_of Z4.out 1
          have f2 := free_of Z4.out 2
          have f3 := free_of Z4.out 3
          have f4 := free_of Z4.out 4
          have f5 := free_of Z4.out 5
          have f6 := free_of Z4.out 6
          have f7 := free_of Z4.out 7
          have f8 := free_of Z4.out 8
          have f9 := free_of Z4.out 9
          have hlz := heap_lt Z4.out
          have Hfin := box (Hbad.out _ K4.out).1
          have Hcal := box (Hbad.out _ K4.out).2
          go_wp2_with fail
          (try simp only [Exit.inBlock, Exit.then])
          refine bodyPost_ret (ret_msg rfl _ _ (w.heap.size + 1) _ rfl Hfin.out rfl) rfl ?_
          exact ⟨_, 1, rfl, Hcal.out, fun _ => ⟨by rw [hg]; rfl, rfl⟩, fun h => by have := h.2.2; rw [Bool.and_eq_false_iff] at htm; rcases htm with e | e <;> simp [e] at this⟩
      · have Htm := box htm
        rcases h3 with rfl | rfl
        · go_wp2_with fail
          refine htime.out.mono ?_
          rw [htm]
          rintro e w4 ⟨rfl, rfl⟩
          clear htm c0 hlt
          have c0 := cell_of J4.out 0
          have c1 := cell_of J4.out 1
          have c2 := cell_of J4.out 2
          have c3 := cell_of J4.out 3
          have c4 := cell_of J4.out 4
          have c5 := cell_of J4.out 5
          have c6 := cell_of J4.out 6
          have c7 := cell_of J4.out 7
          have c8 := cell_of J4.out 8
          have c9 := cell_of J4.out 9
          have hlt := heap_lt J4.out
          go_wp2_with fail
          refine (hcopy.out _ C4.out).mono ?_
          rintro e w5 ⟨kv', rfl, hst, hfr, hc5⟩
          have K5 := box (K4.out.trans hc5)
          have J5 := box (HJ.out _ K5.out).1
          have Z5 := box (HJ.out _ K5.out).2
          obtain ⟨va, vcap, rfl, _⟩ := hst.uni
          have Hst := box hst
          have Hfr := box (show ∀ a n c, (Value.slice va ks.length vcap) = .slice (some a) n c → 0 < n → w.heap.size + 2 ≤ a.block from fun a n c e hn => by
            have := hfr a n c e hn
            have h2 := K3.out.size
            have h3 := heap_lt Hz.out
            simp only [World.size_alloc] at this
            omega)
          clear hst hfr hc5 hlt c0 c1 c2 c3 c4 c5 c6 c7 c8 c9
          have c3 := cell_of J5.out 3
          have hlt := heap_lt J5.out
          have hlt5 := heap_lt Z5.out
          have hne1 : w5.heap.size ≠ w.heap.size + 1 := by omega
          have hne2 : w.heap.size + 1 ≠ w5.heap.size := by omega
          have hx1 := heap_new w5 (.cells #[.int .i64 1, .int .i64 0, .int .i64 du, .int .i64 rt, .int .i64 rf, .int .i64 now, .string tp, .string tg, .string bd, .slice va ks.length vcap] 33)
          have k1 := (Keeps.refl (fun b => b = w5.heap.size) w5).alloc (.cells #[.int .i64 1, .int .i64 0, .int .i64 du, .int .i64 rt, .int .i64 rf, .int .i64 now, .string tp, .string tg, .string bd, .slice va ks.length vcap] 33)
          have Hx1 := box hx1
          have K1 := box k1
          clear k1 hx1
          by_cases hrt : 4 ≤ rt
          · go_wp2_with fail
            refine (Dead_any g _).mono ?_
            rintro e w7 ⟨rfl, hc7⟩
            have X7 := box (heap_calm hc7 Hx1.out)
            have K7 := box (K1.out.calm hc7)
            have Z7 := box ((K7.out.block _ hlt5 hne2).trans Z5.out)
            have C7 := box (show Calm W1 w7 from K5.out.trans (K7.out.below (Nat.le_refl _) (fun b e => by omega)))
            clear hc7 hlt hlt5 c3
            have x0 := cell_of X7.out 0
            have x1 := cell_of X7.out 1
            have x2 := cell_of X7.out 2
            have x3 := cell_of X7.out 3
            have x4 := cell_of X7.out 4
            have x5 := cell_of X7.out 5
            have x6 := cell_of X7.out 6
            have x7 := cell_of X7.out 7
            have x8 := cell_of X7.out 8
            have x9 := cell_of X7.out 9
            have y0 := free_of X7.out 0
            have y1 := free_of X7.out 1
            have y2 := free_of X7.out 2
            have y3 := free_of X7.out 3
            have y4 := free_of X7.out 4
            have y5 := free_of X7.out 5
            have y6 := free_of X7.out 6
            have y7 := free_of X7.out 7
            have y8 := free_of X7.out 8
            have y9 := free_of X7.out 9
            have hlx := heap_lt X7.out
            have z0 := cell_of Z7.out 0
            have z1 := cell_of Z7.out 1
            have z2 := cell_of Z7.out 2
            have z3 := cell_of Z7.out 3
            have z4 := cell_of Z7.out 4
            have z5 := cell_of Z7.out 5
            have z6 := cell_of Z7.out 6
            have z7 := cell_of Z7.out 7
            have z8 := cell_of Z7.out 8
            have z9 := cell_of Z7.out 9
            have f0 := free_of Z7.out 0
            have f1 := free_of Z7.out 1
            have f2 := free_of Z7.out 2
            have f3 := free_of Z7.out 3
            have f4 := free_of Z7.out 4
            have f5 := free_of Z7.out 5
            have f6 := free_of Z7.out 6
            have f7 := free_of Z7.out 7
            have f8 := free_of Z7.out 8
            have f9 := free_of Z7.out 9
            have hlz := heap_lt Z7.out
            go_wp2_with fail
            have hz8 := (heap_set_other hne2 4 (.int .i64 0)).trans ((heap_set_other hne2 2 (.int .i64 0)).trans ((heap_set_other hne2 6 (.string (ownS deadC g))).trans ((heap_set_other hne2 0 (.int .i64 1)).trans Z7.out)))
            have k8 := (((K7.out.mono (G := fun b => b = w5.heap.size ∨ b = w.heap.size + 1) (fun b _ e => .inl e)).setCell (p := ⟨w5.heap.size, 0, none⟩) (.inl (.inl rfl)) (.int .i64 1)).setCell (p := ⟨w5.heap.size, 6, none⟩) (.inl (.inl rfl)) (.string (ownS deadC g))).setCell (p := ⟨w5.heap.size, 2, none⟩) (.inl (.inl rfl)) (.int .i64 0) |>.setCell (p := ⟨w5.heap.size, 4, none⟩) (.inl (.inl rfl)) (.int .i64 0)
            have Hfin := box (put_msg hz8 rfl (.int .i64 1) (.int .i64 0) (.int .i64 0) (.int .i64 rt) (.int .i64 0) (.int .i64 now) (.string (ownS deadC g)) (.string tg) (.string bd) (.slice va ks.length vcap))
            have K8 := box (keeps_put_msg k8 (b := w.heap.size + 1) (.inr rfl) (.int .i64 1) (.int .i64 0) (.int .i64 0) (.int .i64 rt) (.int .i64 0) (.int .i64 now) (.string (ownS deadC g)) (.string tg) (.string bd) (.slice va ks.length vcap))
            have Hst8 := box (strs_keep Hst.out K8.out (fun a n c e hn hf => by have := Hfr.out a n c e hn; have := strs_lt Hst.out a n c e hn; omega))
            have hww := Nat.le_trans Ha.out.size K5.out.size
            have C8 := box (Below.trans (Ha.out.trans K5.out) (K8.out.below (B := w.heap.size) hww (fun b hf => by rcases hf with rfl | rfl <;> omega)))
            clear hz8 k8
            (try simp only [Exit.inBlock, Exit.then])
            refine bodyPost_ret (ret_msg rfl _ _ (w.heap.size + 1) _ rfl Hfin.out rfl) rfl ?_
            refine ⟨_, 0, rfl, C8.out, fun h => absurd (show AgainOk _ id g now from ⟨hg, Hr.out, (Bool.and_eq_true _ _ ▸ Htm.out).1, (Bool.and_eq_true _ _ ▸ Htm.out).2⟩) h, fun _ => ⟨rfl, .slice va ks.length vcap, ?_, Hst8.out, fun a n c e hn => by have := Hfr.out a n c e hn; omega⟩⟩
            unfold againS
            rw [if_pos hrt]
          · have h14 : 1 ≤ rt + 1 ∧ rt + 1 ≤ 4 := by have := Hr.out.2.1.2.2.2.1; simp only at this; omega
            obtain ⟨hd1, hd4⟩ := h14
            have hwr : IntKind.i64.wrap (rt + 1) = rt + 1 := IntWalk.i64_in _ (by omega)
            have hx2 := heap_new w5 (.cells #[.int .i64 1, .int .i64 0, .int .i64 du, .int .i64 (rt + 1), .int .i64 rf, .int .i64 now, .string tp, .string tg, .string bd, .slice va ks.length vcap] 33)
            have k2 := (Keeps.refl (fun b => b = w5.heap.size) w5).alloc (.cells #[.int .i64 1, .int .i64 0, .int .i64 du, .int .i64 (rt + 1), .int .i64 rf, .int .i64 now, .string tp, .string tg, .string bd, .slice va ks.length vcap] 33)
            have Hx2 := box hx2
            have K2 := box k2
            clear hx2 k2
            go_wp2_with fail
            refine wp_region_held_drew (S := fun w' => w'.cell? ⟨w5.heap.size, 3, none⟩ = some (.int .i64 (rt + 1))) (by kernel_rfl) (by go_keep) (fun hHeld => ?_)
            ((refine' wpAnyH_take (i := 0) (v := _) rfl (by kernel_rfl) (by kernel_rfl) (by kernel_rfl) (fun _ _ _ h => h) (Or.inl ⟨by rfl, ?hy1⟩) (by assumption) ?rest1; (case hy1 => (intro w hSw; (try dsimp only at hSw); go_simp <;> with_reducible rfl)); simp only [List.getElem_toArray, List.getElem_cons_succ, List.getElem_cons_zero, Act.put, List.setIfInBounds_toArray, List.set_cons_zero, List.set_cons_succ]))
            ((refine' wpAnyH_take (i := 2) (v := _) rfl (by kernel_rfl) (by kernel_rfl) (by kernel_rfl) (fun _ _ _ h => h) (Or.inl ⟨by rfl, ?hy2⟩) (by assumption) ?rest2; (case hy2 => (intro w hSw; (try dsimp only at hSw); go_simp <;> with_reducible rfl)); simp only [List.getElem_toArray, List.getElem_cons_succ, List.getElem_cons_zero, Act.put, List.setIfInBounds_toArray, List.set_cons_zero, List.set_cons_succ]); (refine' wpAnyH_take (i := 3) (v := _) rfl (by kernel_rfl) (by kernel_rfl) (by kernel_rfl) (fun _ _ _ h => h) (Or.inl ⟨by rfl, ?hy3⟩) (by assumption) ?rest3; (case hy3 => (intro w hSw; (try dsimp only at hSw); go_simp <;> with_reducible rfl)); simp only [List.getElem_toArray, List.getElem_cons_succ, List.getElem_cons_zero, Act.put, List.setIfInBounds_toArray, List.set_cons_zero, List.set_cons_succ]); (refine' wpAnyH_take (i := 4) (v := _) rfl (by kernel_rfl) (by kernel_rfl) (by kernel_rfl) (fun _ _ _ h => h) (Or.inl ⟨by rfl, ?hy4⟩) (by assumption) ?rest4; (case hy4 => (intro w hSw; (try dsimp only at hSw); go_simp <;> with_reducible rfl)); simp only [List.getElem_toArray, List.getElem_cons_succ, List.getElem_cons_zero, Act.put, List.setIfInBounds_toArray, List.set_cons_zero, List.set_cons_succ]))
            ((refine' wpAnyH_take (i := 7) (v := _) rfl (by kernel_rfl) (by kernel_rfl) (by kernel_rfl) (fun _ _ _ h => h) (Or.inl ⟨by rfl, ?hy5⟩) (by assumption) ?rest5; (case hy5 => (intro w hSw; (try dsimp only at hSw); go_simp <;> with_reducible rfl)); simp only [List.getElem_toArray, List.getElem_cons_succ, List.getElem_cons_zero, Act.put, List.setIfInBounds_toArray, List.set_cons_zero, List.set_cons_succ]); (refine' wpAnyH_take (i := 8) (v := _) rfl (by kernel_rfl) (by kernel_rfl) (by kernel_rfl) (fun _ _ _ h => h) (Or.inl ⟨by rfl, ?hy6⟩) (by assumption) ?rest6; (case hy6 => (intro w hSw; (try dsimp only at hSw); go_simp <;> with_reducible rfl)); simp only [List.getElem_toArray, List.getElem_cons_succ, List.getElem_cons_zero, Act.put, List.setIfInBounds_toArray, List.set_cons_zero, List.set_cons_succ]))
            refine wpAnyH_ready (rs := [1]) (by kernel_rfl) (by simp) ?_
            refine AllReadyH.cons rfl (fun K hK => ?_) AllReadyH.nil
            rw [if_pos (by rfl)]
            go_simp
            refine (Retry_any g _).mono ?_
            rintro e w7 ⟨rfl, hb⟩
            have X7 := box (heap_calm hb Hx2.out)
            have x3 := cell_of X7.out 3
            have K7 := box ((K2.out.drew).calm hb)
            clear hb
            go_wp2_with fail
            refine hK.out _ _ x3 (fun hHeld2 => ?_)
            clear hK K
            try simp only [List.getElem_toArray, List.getElem_cons_succ, List.getElem_cons_zero, Act.put, List.setIfInBounds_toArray, List.set_cons_zero, List.set_cons_succ]
            refine wpAnyH_ready (rs := [5]) (by kernel_rfl) (by simp) ?_
            refine AllReadyH.cons rfl (fun K hK => ?_) AllReadyH.nil
            rw [if_pos (by rfl)]
            go_simp
            refine (Delay_any (rt + 1) _ hd1 hd4).mono ?_
            rintro e w8 ⟨rfl, rfl⟩
            go_wp2_with fail
            refine hK.out _ _ x3 (fun hHeld3 => ?_)
            clear hK K
            try simp only [List.getElem_toArray, List.getElem_cons_succ, List.getElem_cons_zero, Act.put, List.setIfInBounds_toArray, List.set_cons_zero, List.set_cons_succ]
            have hwn : IntKind.i64.wrap (now + delayN (rt + 1)) = now + delayN (rt + 1) := IntWalk.i64_in _ (by
              have h1 := (Bool.and_eq_true _ _ ▸ Htm.out).2
              unfold timeB at h1
              simp only [Bool.and_eq_true, decide_eq_true_eq] at h1
              have h2 := delay_le (rt + 1) hd1 hd4
              omega)
            ((refine' wpAnyH_take (i := 6) (v := _) rfl (by kernel_rfl) (by kernel_rfl) (by kernel_rfl) (fun _ _ _ h => h) (Or.inl ⟨by rfl, ?hy7⟩) (by assumption) ?rest7; (case hy7 => (intro w hSw; (try dsimp only at hSw); go_simp <;> with_reducible rfl)); simp only [List.getElem_toArray, List.getElem_cons_succ, List.getElem_cons_zero, Act.put, List.setIfInBounds_toArray, List.set_cons_zero, List.set_cons_succ]))
            refine wpAnyH_ready (rs := [9]) (by kernel_rfl) (by simp) ?_
            refine AllReadyH.cons rfl (fun K hK => ?_) AllReadyH.nil
            rw [if_pos (by rfl)]
            have x0 := cell_of X7.out 0
            have y0 := free_of X7.out 0
            have hlx := heap_lt X7.out
            have hxs := heap_set X7.out 0 (.int .i64 2)
            simp only [List.setIfInBounds_toArray, List.set_cons_succ, List.set_cons_zero] at hxs
            have X8 := box hxs
            clear hxs
            go_simp
            refine hK.out _ _ (cell_of X8.out 3) (fun _ => ?_)
            clear x0 y0 hlx
            clear hK K
            try simp only [List.getElem_toArray, List.getElem_cons_succ, List.getElem_cons_zero, Act.put, List.setIfInBounds_toArray, List.set_cons_zero, List.set_cons_succ]
            ((refine' wpAnyH_take (i := 10) (v := _) rfl (by kernel_rfl) (by kernel_rfl) (by kernel_rfl) (fun _ _ _ h => h) (Or.inl ⟨by rfl, ?hy8⟩) (by assumption) ?rest8; (case hy8 => (intro w hSw; (try dsimp only at hSw); go_simp <;> with_reducible rfl)); simp only [List.getElem_toArray, List.getElem_cons_succ, List.getElem_cons_zero, Act.put, List.setIfInBounds_toArray, List.set_cons_zero, List.set_cons_succ]))
            refine wpAnyH_ready (rs := [11]) (by kernel_rfl) (by simp) ?_
            refine AllReadyH.cons rfl (fun K hK => ?_) AllReadyH.nil
            rw [if_pos (by rfl)]
            have x6 := cell_of X8.out 6
            have y6 := free_of X8.out 6
            have hlx := heap_lt X8.out
            have hxs := heap_set X8.out 6 (.string (ownS retryC g))
            simp only [List.setIfInBounds_toArray, List.set_cons_succ, List.set_cons_zero] at hxs
            have X9 := box hxs
            clear hxs
            go_simp
            refine hK.out _ _ (cell_of X9.out 3) (fun _ => ?_)
            clear x6 y6 hlx
            clear hK K
            try simp only [List.getElem_toArray, List.getElem_cons_succ, List.getElem_cons_zero, Act.put, List.setIfInBounds_toArray, List.set_cons_zero, List.set_cons_succ]
            ((refine' wpAnyH_take (i := 12) (v := _) rfl (by kernel_rfl) (by kernel_rfl) (by kernel_rfl) (fun _ _ _ h => h) (Or.inl ⟨by rfl, ?hy9⟩) (by assumption) ?rest9; (case hy9 => (intro w hSw; (try dsimp only at hSw); go_simp <;> with_reducible rfl)); simp only [List.getElem_toArray, List.getElem_cons_succ, List.getElem_cons_zero, Act.put, List.setIfInBounds_toArray, List.set_cons_zero, List.set_cons_succ]))
            refine wpAnyH_ready (rs := [13]) (by kernel_rfl) (by simp) ?_
            refine AllReadyH.cons rfl (fun K hK => ?_) AllReadyH.nil
            rw [if_pos (by rfl)]
            have x2 := cell_of X9.out 2
            have y2 := free_of X9.out 2
            have hlx := heap_lt X9.out
            have hxs := heap_set X9.out 2 (.int .i64 (now + delayN (rt + 1)))
            simp only [List.setIfInBounds_toArray, List.set_cons_succ, List.set_cons_zero] at hxs
            have XA := box hxs
            clear hxs
            go_simp
            refine hK.out _ _ (cell_of XA.out 3) (fun _ => ?_)
            clear x2 y2 hlx
            clear hK K
            try simp only [List.getElem_toArray, List.getElem_cons_succ, List.getElem_cons_zero, Act.put, List.setIfInBounds_toArray, List.set_cons_zero, List.set_cons_succ]
            ((refine' wpAnyH_take (i := 14) (v := _) rfl (by kernel_rfl) (by kernel_rfl) (by kernel_rfl) (fun _ _ _ h => h) (Or.inl ⟨by rfl, ?hy10⟩) (by assumption) ?rest10; (case hy10 => (intro w hSw; (try dsimp only at hSw); go_simp <;> with_reducible rfl)); simp only [List.getElem_toArray, List.getElem_cons_succ, List.getElem_cons_zero, Act.put, List.setIfInBounds_toArray, List.set_cons_zero, List.set_cons_succ]))
            refine wpAnyH_ready (rs := [15]) (by kernel_rfl) (by simp) ?_
            refine AllReadyH.cons rfl (fun K hK => ?_) AllReadyH.nil
            rw [if_pos (by rfl)]
            have x4 := cell_of XA.out 4
            have y4 := free_of XA.out 4
            have hlx := heap_lt XA.out
            have hxs := heap_set XA.out 4 (.int .i64 id)
            simp only [List.setIfInBounds_toArray, List.set_cons_succ, List.set_cons_zero] at hxs
            have XB := box hxs
            clear hxs
            go_simp
            refine hK.out _ _ (cell_of XB.out 3) (fun _ => ?_)
            clear x4 y4 hlx
            clear hK K
            try simp only [List.getElem_toArray, List.getElem_cons_succ, List.getElem_cons_zero, Act.put, List.setIfInBounds_toArray, List.set_cons_zero, List.set_cons_succ]
            refine wpAnyH_done (by kernel_rfl) ?_ _
            have Z7 := box ((K7.out.block _ hlt5 hne2).trans Z5.out)
            have hz8 := (heap_set_other hne2 4 (.int .i64 id)).trans ((heap_set_other hne2 2 (.int .i64 (now + delayN (rt + 1)))).trans ((heap_set_other hne2 6 (.string (ownS retryC g))).trans ((heap_set_other hne2 0 (.int .i64 2)).trans Z7.out)))
            have k8 := (((K7.out.mono (G := fun b => b = w5.heap.size ∨ b = w.heap.size + 1) (fun b _ e => .inl e)).setCell (p := ⟨w5.heap.size, 0, none⟩) (.inl (.inl rfl)) (.int .i64 2)).setCell (p := ⟨w5.heap.size, 6, none⟩) (.inl (.inl rfl)) (.string (ownS retryC g))).setCell (p := ⟨w5.heap.size, 2, none⟩) (.inl (.inl rfl)) (.int .i64 (now + delayN (rt + 1))) |>.setCell (p := ⟨w5.heap.size, 4, none⟩) (.inl (.inl rfl)) (.int .i64 id)
            have Hfin := box (put_msg hz8 rfl (.int .i64 2) (.int .i64 0) (.int .i64 (now + delayN (rt + 1))) (.int .i64 (rt + 1)) (.int .i64 id) (.int .i64 now) (.string (ownS retryC g)) (.string tg) (.string bd) (.slice va ks.length vcap))
            have K8 := box (keeps_put_msg k8 (b := w.heap.size + 1) (.inr rfl) (.int .i64 2) (.int .i64 0) (.int .i64 (now + delayN (rt + 1))) (.int .i64 (rt + 1)) (.int .i64 id) (.int .i64 now) (.string (ownS retryC g)) (.string tg) (.string bd) (.slice va ks.length vcap))
            have Hst8 := box (strs_keep Hst.out K8.out (fun a n c e hn hf => by have := Hfr.out a n c e hn; have := strs_lt Hst.out a n c e hn; omega))
            have hww := Nat.le_trans Ha.out.size K5.out.size
            have C8 := box (Below.trans (Ha.out.trans K5.out) (K8.out.below (B := w.heap.size) hww (fun b hf => by rcases hf with rfl | rfl <;> omega)))
            clear k8 hlt hlt5 c3
            have x0 := cell_of XB.out 0
            have x1 := cell_of XB.out 1
            have x2 := cell_of XB.out 2
            have x3 := cell_of XB.out 3
            have x4 := cell_of XB.out 4
            have x5 := cell_of XB.out 5
            have x6 := cell_of XB.out 6
            have x7 := cell_of XB.out 7
            have x8 := cell_of XB.out 8
            have x9 := cell_of XB.out 9
            have hlx := heap_lt XB.out
            have z0 := cell_of hz8 0
            have z1 := cell_of hz8 1
            have z2 := cell_of hz8 2
            have z3 := cell_of hz8 3
            have z4 := cell_of hz8 4
            have z5 := cell_of hz8 5
            have z6 := cell_of hz8 6
            have z7 := cell_of hz8 7
            have z8 := cell_of hz8 8
            have z9 := cell_of hz8 9
            have f0 := free_of hz8 0
            have f1 := free_of hz8 1
            have f2 := free_of hz8 2
            have f3 := free_of hz8 3
            have f4 := free_of hz8 4
            have f5 := free_of hz8 5
            have f6 := free_of hz8 6
            have f7 := free_of hz8 7
            have f8 := free_of hz8 8
            have f9 := free_of hz8 9
            have hlz := heap_lt hz8
            clear hz8
            go_wp2_with fail
            (try simp only [Exit.inBlock, Exit.then])
            refine bodyPost_ret (ret_msg rfl _ _ (w.heap.size + 1) _ rfl Hfin.out rfl) rfl ?_
            refine ⟨_, 0, rfl, C8.out, fun h => absurd (show AgainOk _ id g now from ⟨hg, Hr.out, (Bool.and_eq_true _ _ ▸ Htm.out).1, (Bool.and_eq_true _ _ ▸ Htm.out).2⟩) h, fun _ => ⟨rfl, .slice va ks.length vcap, ?_, Hst8.out, fun a n c e hn => by have := Hfr.out a n c e hn; omega⟩⟩
            unfold againS
            rw [if_neg (show ¬ 4 ≤ rt by omega)]
        · go_wp2_with fail
          refine htime.out.mono ?_
          rw [htm]
          rintro e w4 ⟨rfl, rfl⟩
          clear htm c0 hlt
          have c0 := cell_of J4.out 0
          have c1 := cell_of J4.out 1
          have c2 := cell_of J4.out 2
          have c3 := cell_of J4.out 3
          have c4 := cell_of J4.out 4
          have c5 := cell_of J4.out 5
          have c6 := cell_of J4.out 6
          have c7 := cell_of J4.out 7
          have c8 := cell_of J4.out 8
          have c9 := cell_of J4.out 9
          have hlt := heap_lt J4.out
          go_wp2_with fail
          refine (hcopy.out _ C4.out).mono ?_
          rintro e w5 ⟨kv', rfl, hst, hfr, hc5⟩
          have K5 := box (K4.out.trans hc5)
          have J5 := box (HJ.out _ K5.out).1
          have Z5 := box (HJ.out _ K5.out).2
          obtain ⟨va, vcap, rfl, _⟩ := hst.uni
          have Hst := box hst
          have Hfr := box (show ∀ a n c, (Value.slice va ks.length vcap) = .slice (some a) n c → 0 < n → w.heap.size + 2 ≤ a.block from fun a n c e hn => by
            have := hfr a n c e hn
            have h2 := K3.out.size
            have h3 := heap_lt Hz.out
            simp only [World.size_alloc] at this
            omega)
          clear hst hfr hc5 hlt c0 c1 c2 c3 c4 c5 c6 c7 c8 c9
          have c3 := cell_of J5.out 3
          have hlt := heap_lt J5.out
          have hlt5 := heap_lt Z5.out
          have hne1 : w5.heap.size ≠ w.heap.size + 1 := by omega
          have hne2 : w.heap.size + 1 ≠ w5.heap.size := by omega
          have hx1 := heap_new w5 (.cells #[.int .i64 3, .int .i64 0, .int .i64 du, .int .i64 rt, .int .i64 rf, .int .i64 now, .string tp, .string tg, .string bd, .slice va ks.length vcap] 33)
          have k1 := (Keeps.refl (fun b => b = w5.heap.size) w5).alloc (.cells #[.int .i64 3, .int .i64 0, .int .i64 du, .int .i64 rt, .int .i64 rf, .int .i64 now, .string tp, .string tg, .string bd, .slice va ks.length vcap] 33)
          have Hx1 := box hx1
          have K1 := box k1
          clear k1 hx1
          by_cases hrt : 4 ≤ rt
          · go_wp2_with fail
            refine (Dead_any g _).mono ?_
            rintro e w7 ⟨rfl, hc7⟩
            have X7 := box (heap_calm hc7 Hx1.out)
            have K7 := box (K1.out.calm hc7)
            have Z7 := box ((K7.out.block _ hlt5 hne2).trans Z5.out)
            have C7 := box (show Calm W1 w7 from K5.out.trans (K7.out.below (Nat.le_refl _) (fun b e => by omega)))
            clear hc7 hlt hlt5 c3
            have x0 := cell_of X7.out 0
            have x1 := cell_of X7.out 1
            have x2 := cell_of X7.out 2
            have x3 := cell_of X7.out 3
            have x4 := cell_of X7.out 4
            have x5 := cell_of X7.out 5
            have x6 := cell_of X7.out 6
            have x7 := cell_of X7.out 7
            have x8 := cell_of X7.out 8
            have x9 := cell_of X7.out 9
            have y0 := free_of X7.out 0
            have y1 := free_of X7.out 1
            have y2 := free_of X7.out 2
            have y3 := free_of X7.out 3
            have y4 := free_of X7.out 4
            have y5 := free_of X7.out 5
            have y6 := free_of X7.out 6
            have y7 := free_of X7.out 7
            have y8 := free_of X7.out 8
            have y9 := free_of X7.out 9
            have hlx := heap_lt X7.out
            have z0 := cell_of Z7.out 0
            have z1 := cell_of Z7.out 1
            have z2 := cell_of Z7.out 2
            have z3 := cell_of Z7.out 3
            have z4 := cell_of Z7.out 4
            have z5 := cell_of Z7.out 5
            have z6 := cell_of Z7.out 6
            have z7 := cell_of Z7.out 7
            have z8 := cell_of Z7.out 8
            have z9 := cell_of Z7.out 9
            have f0 := free_of Z7.out 0
            have f1 := free_of Z7.out 1
            have f2 := free_of Z7.out 2
            have f3 := free_of Z7.out 3
            have f4 := free_of Z7.out 4
            have f5 := free_of Z7.out 5
            have f6 := free_of Z7.out 6
            have f7 := free_of Z7.out 7
            have f8 := free_of Z7.out 8
            have f9 := free_of Z7.out 9
            have hlz := heap_lt Z7.out
            go_wp2_with fail
            have hz8 := (heap_set_other hne2 4 (.int .i64 0)).trans ((heap_set_other hne2 2 (.int .i64 0)).trans ((heap_set_other hne2 6 (.string (ownS deadC g))).trans ((heap_set_other hne2 0 (.int .i64 1)).trans Z7.out)))
            have k8 := (((K7.out.mono (G := fun b => b = w5.heap.size ∨ b = w.heap.size + 1) (fun b _ e => .inl e)).setCell (p := ⟨w5.heap.size, 0, none⟩) (.inl (.inl rfl)) (.int .i64 1)).setCell (p := ⟨w5.heap.size, 6, none⟩) (.inl (.inl rfl)) (.string (ownS deadC g))).setCell (p := ⟨w5.heap.size, 2, none⟩) (.inl (.inl rfl)) (.int .i64 0) |>.setCell (p := ⟨w5.heap.size, 4, none⟩) (.inl (.inl rfl)) (.int .i64 0)
            have Hfin := box (put_msg hz8 rfl (.int .i64 1) (.int .i64 0) (.int .i64 0) (.int .i64 rt) (.int .i64 0) (.int .i64 now) (.string (ownS deadC g)) (.string tg) (.string bd) (.slice va ks.length vcap))
            have K8 := box (keeps_put_msg k8 (b := w.heap.size + 1) (.inr rfl) (.int .i64 1) (.int .i64 0) (.int .i64 0) (.int .i64 rt) (.int .i64 0) (.int .i64 now) (.string (ownS deadC g)) (.string tg) (.string bd) (.slice va ks.length vcap))
            have Hst8 := box (strs_keep Hst.out K8.out (fun a n c e hn hf => by have := Hfr.out a n c e hn; have := strs_lt Hst.out a n c e hn; omega))
            have hww := Nat.le_trans Ha.out.size K5.out.size
            have C8 := box (Below.trans (Ha.out.trans K5.out) (K8.out.below (B := w.heap.size) hww (fun b hf => by rcases hf with rfl | rfl <;> omega)))
            clear hz8 k8
            (try simp only [Exit.inBlock, Exit.then])
            refine bodyPost_ret (ret_msg rfl _ _ (w.heap.size + 1) _ rfl Hfin.out rfl) rfl ?_
            refine ⟨_, 0, rfl, C8.out, fun h => absurd (show AgainOk _ id g now from ⟨hg, Hr.out, (Bool.and_eq_true _ _ ▸ Htm.out).1, (Bool.and_eq_true _ _ ▸ Htm.out).2⟩) h, fun _ => ⟨rfl, .slice va ks.length vcap, ?_, Hst8.out, fun a n c e hn => by have := Hfr.out a n c e hn; omega⟩⟩
            unfold againS
            rw [if_pos hrt]
          · have h14 : 1 ≤ rt + 1 ∧ rt + 1 ≤ 4 := by have := Hr.out.2.1.2.2.2.1; simp only at this; omega
            obtain ⟨hd1, hd4⟩ := h14
            have hwr : IntKind.i64.wrap (rt + 1) = rt + 1 := IntWalk.i64_in _ (by omega)
            have hx2 := heap_new w5 (.cells #[.int .i64 3, .int .i64 0, .int .i64 du, .int .i64 (rt + 1), .int .i64 rf, .int .i64 now, .string tp, .string tg, .string bd, .slice va ks.length vcap] 33)
            have k2 := (Keeps.refl (fun b => b = w5.heap.size) w5).alloc (.cells #[.int .i64 3, .int .i64 0, .int .i64 du, .int .i64 (rt + 1), .int .i64 rf, .int .i64 now, .string tp, .string tg, .string bd, .slice va ks.length vcap] 33)
            have Hx2 := box hx2
            have K2 := box k2
            clear hx2 k2
            go_wp2_with fail
            refine wp_region_held_drew (S := fun w' => w'.cell? ⟨w5.heap.size, 3, none⟩ = some (.int .i64 (rt + 1))) (by kernel_rfl) (by go_keep) (fun hHeld => ?_)
            ((refine' wpAnyH_take (i := 0) (v := _) rfl (by kernel_rfl) (by kernel_rfl) (by kernel_rfl) (fun _ _ _ h => h) (Or.inl ⟨by rfl, ?hy11⟩) (by assumption) ?rest11; (case hy11 => (intro w hSw; (try dsimp only at hSw); go_simp <;> with_reducible rfl)); simp only [List.getElem_toArray, List.getElem_cons_succ, List.getElem_cons_zero, Act.put, List.setIfInBounds_toArray, List.set_cons_zero, List.set_cons_succ]))
            ((refine' wpAnyH_take (i := 2) (v := _) rfl (by kernel_rfl) (by kernel_rfl) (by kernel_rfl) (fun _ _ _ h => h) (Or.inl ⟨by rfl, ?hy12⟩) (by assumption) ?rest12; (case hy12 => (intro w hSw; (try dsimp only at hSw); go_simp <;> with_reducible rfl)); simp only [List.getElem_toArray, List.getElem_cons_succ, List.getElem_cons_zero, Act.put, List.setIfInBounds_toArray, List.set_cons_zero, List.set_cons_succ]); (refine' wpAnyH_take (i := 3) (v := _) rfl (by kernel_rfl) (by kernel_rfl) (by kernel_rfl) (fun _ _ _ h => h) (Or.inl ⟨by rfl, ?hy13⟩) (by assumption) ?rest13; (case hy13 => (intro w hSw; (try dsimp only at hSw); go_simp <;> with_reducible rfl)); simp only [List.getElem_toArray, List.getElem_cons_succ, List.getElem_cons_zero, Act.put, List.setIfInBounds_toArray, List.set_cons_zero, List.set_cons_succ]); (refine' wpAnyH_take (i := 4) (v := _) rfl (by kernel_rfl) (by kernel_rfl) (by kernel_rfl) (fun _ _ _ h => h) (Or.inl ⟨by rfl, ?hy14⟩) (by assumption) ?rest14; (case hy14 => (intro w hSw; (try dsimp only at hSw); go_simp <;> with_reducible rfl)); simp only [List.getElem_toArray, List.getElem_cons_succ, List.getElem_cons_zero, Act.put, List.setIfInBounds_toArray, List.set_cons_zero, List.set_cons_succ]))
            ((refine' wpAnyH_take (i := 7) (v := _) rfl (by kernel_rfl) (by kernel_rfl) (by kernel_rfl) (fun _ _ _ h => h) (Or.inl ⟨by rfl, ?hy15⟩) (by assumption) ?rest15; (case hy15 => (intro w hSw; (try dsimp only at hSw); go_simp <;> with_reducible rfl)); simp only [List.getElem_toArray, List.getElem_cons_succ, List.getElem_cons_zero, Act.put, List.setIfInBounds_toArray, List.set_cons_zero, List.set_cons_succ]); (refine' wpAnyH_take (i := 8) (v := _) rfl (by kernel_rfl) (by kernel_rfl) (by kernel_rfl) (fun _ _ _ h => h) (Or.inl ⟨by rfl, ?hy16⟩) (by assumption) ?rest16; (case hy16 => (intro w hSw; (try dsimp only at hSw); go_simp <;> with_reducible rfl)); simp only [List.getElem_toArray, List.getElem_cons_succ, List.getElem_cons_zero, Act.put, List.setIfInBounds_toArray, List.set_cons_zero, List.set_cons_succ]))
            refine wpAnyH_ready (rs := [1]) (by kernel_rfl) (by simp) ?_
            refine AllReadyH.cons rfl (fun K hK => ?_) AllReadyH.nil
            rw [if_pos (by rfl)]
            go_simp
            refine (Retry_any g _).mono ?_
            rintro e w7 ⟨rfl, hb⟩
            have X7 := box (heap_calm hb Hx2.out)
            have x3 := cell_of X7.out 3
            have K7 := box ((K2.out.drew).calm hb)
            clear hb
            go_wp2_with fail
            refine hK.out _ _ x3 (fun hHeld2 => ?_)
            clear hK K
            try simp only [List.getElem_toArray, List.getElem_cons_succ, List.getElem_cons_zero, Act.put, List.setIfInBounds_toArray, List.set_cons_zero, List.set_cons_succ]
            refine wpAnyH_ready (rs := [5]) (by kernel_rfl) (by simp) ?_
            refine AllReadyH.cons rfl (fun K hK => ?_) AllReadyH.nil
            rw [if_pos (by rfl)]
            go_simp
            refine (Delay_any (rt + 1) _ hd1 hd4).mono ?_
            rintro e w8 ⟨rfl, rfl⟩
            go_wp2_with fail
            refine hK.out _ _ x3 (fun hHeld3 => ?_)
            clear hK K
            try simp only [List.getElem_toArray, List.getElem_cons_succ, List.getElem_cons_zero, Act.put, List.setIfInBounds_toArray, List.set_cons_zero, List.set_cons_succ]
            have hwn : IntKind.i64.wrap (now + delayN (rt + 1)) = now + delayN (rt + 1) := IntWalk.i64_in _ (by
              have h1 := (Bool.and_eq_true _ _ ▸ Htm.out).2
              unfold timeB at h1
              simp only [Bool.and_eq_true, decide_eq_true_eq] at h1
              have h2 := delay_le (rt + 1) hd1 hd4
              omega)
            ((refine' wpAnyH_take (i := 6) (v := _) rfl (by kernel_rfl) (by kernel_rfl) (by kernel_rfl) (fun _ _ _ h => h) (Or.inl ⟨by rfl, ?hy17⟩) (by assumption) ?rest17; (case hy17 => (intro w hSw; (try dsimp only at hSw); go_simp <;> with_reducible rfl)); simp only [List.getElem_toArray, List.getElem_cons_succ, List.getElem_cons_zero, Act.put, List.setIfInBounds_toArray, List.set_cons_zero, List.set_cons_succ]))
            refine wpAnyH_ready (rs := [9]) (by kernel_rfl) (by simp) ?_
            refine AllReadyH.cons rfl (fun K hK => ?_) AllReadyH.nil
            rw [if_pos (by rfl)]
            have x0 := cell_of X7.out 0
            have y0 := free_of X7.out 0
            have hlx := heap_lt X7.out
            have hxs := heap_set X7.out 0 (.int .i64 2)
            simp only [List.setIfInBounds_toArray, List.set_cons_succ, List.set_cons_zero] at hxs
            have X8 := box hxs
            clear hxs
            go_simp
            refine hK.out _ _ (cell_of X8.out 3) (fun _ => ?_)
            clear x0 y0 hlx
            clear hK K
            try simp only [List.getElem_toArray, List.getElem_cons_succ, List.getElem_cons_zero, Act.put, List.setIfInBounds_toArray, List.set_cons_zero, List.set_cons_succ]
            ((refine' wpAnyH_take (i := 10) (v := _) rfl (by kernel_rfl) (by kernel_rfl) (by kernel_rfl) (fun _ _ _ h => h) (Or.inl ⟨by rfl, ?hy18⟩) (by assumption) ?rest18; (case hy18 => (intro w hSw; (try dsimp only at hSw); go_simp <;> with_reducible rfl)); simp only [List.getElem_toArray, List.getElem_cons_succ, List.getElem_cons_zero, Act.put, List.setIfInBounds_toArray, List.set_cons_zero, List.set_cons_succ]))
            refine wpAnyH_ready (rs := [11]) (by kernel_rfl) (by simp) ?_
            refine AllReadyH.cons rfl (fun K hK => ?_) AllReadyH.nil
            rw [if_pos (by rfl)]
            have x6 := cell_of X8.out 6
            have y6 := free_of X8.out 6
            have hlx := heap_lt X8.out
            have hxs := heap_set X8.out 6 (.string (ownS retryC g))
            simp only [List.setIfInBounds_toArray, List.set_cons_succ, List.set_cons_zero] at hxs
            have X9 := box hxs
            clear hxs
            go_simp
            refine hK.out _ _ (cell_of X9.out 3) (fun _ => ?_)
            clear x6 y6 hlx
            clear hK K
            try simp only [List.getElem_toArray, List.getElem_cons_succ, List.getElem_cons_zero, Act.put, List.setIfInBounds_toArray, List.set_cons_zero, List.set_cons_succ]
            ((refine' wpAnyH_take (i := 12) (v := _) rfl (by kernel_rfl) (by kernel_rfl) (by kernel_rfl) (fun _ _ _ h => h) (Or.inl ⟨by rfl, ?hy19⟩) (by assumption) ?rest19; (case hy19 => (intro w hSw; (try dsimp only at hSw); go_simp <;> with_reducible rfl)); simp only [List.getElem_toArray, List.getElem_cons_succ, List.getElem_cons_zero, Act.put, List.setIfInBounds_toArray, List.set_cons_zero, List.set_cons_succ]))
            refine wpAnyH_ready (rs := [13]) (by kernel_rfl) (by simp) ?_
            refine AllReadyH.cons rfl (fun K hK => ?_) AllReadyH.nil
            rw [if_pos (by rfl)]
            have x2 := cell_of X9.out 2
            have y2 := free_of X9.out 2
            have hlx := heap_lt X9.out
            have hxs := heap_set X9.out 2 (.int .i64 (now + delayN (rt + 1)))
            simp only [List.setIfInBounds_toArray, List.set_cons_succ, List.set_cons_zero] at hxs
            have XA := box hxs
            clear hxs
            go_simp
            refine hK.out _ _ (cell_of XA.out 3) (fun _ => ?_)
            clear x2 y2 hlx
            clear hK K
            try simp only [List.getElem_toArray, List.getElem_cons_succ, List.getElem_cons_zero, Act.put, List.setIfInBounds_toArray, List.set_cons_zero, List.set_cons_succ]
            ((refine' wpAnyH_take (i := 14) (v := _) rfl (by kernel_rfl) (by kernel_rfl) (by kernel_rfl) (fun _ _ _ h => h) (Or.inl ⟨by rfl, ?hy20⟩) (by assumption) ?rest20; (case hy20 => (intro w hSw; (try dsimp only at hSw); go_simp <;> with_reducible rfl)); simp only [List.getElem_toArray, List.getElem_cons_succ, List.getElem_cons_zero, Act.put, List.setIfInBounds_toArray, List.set_cons_zero, List.set_cons_succ]))
            refine wpAnyH_ready (rs := [15]) (by kernel_rfl) (by simp) ?_
            refine AllReadyH.cons rfl (fun K hK => ?_) AllReadyH.nil
            rw [if_pos (by rfl)]
            have x4 := cell_of XA.out 4
            have y4 := free_of XA.out 4
            have hlx := heap_lt XA.out
            have hxs := heap_set XA.out 4 (.int .i64 id)
            simp only [List.setIfInBounds_toArray, List.set_cons_succ, List.set_cons_zero] at hxs
            have XB := box hxs
            clear hxs
            go_simp
            refine hK.out _ _ (cell_of XB.out 3) (fun _ => ?_)
            clear x4 y4 hlx
            clear hK K
            try simp only [List.getElem_toArray, List.getElem_cons_succ, List.getElem_cons_zero, Act.put, List.setIfInBounds_toArray, List.set_cons_zero, List.set_cons_succ]
            refine wpAnyH_done (by kernel_rfl) ?_ _
            have Z7 := box ((K7.out.block _ hlt5 hne2).trans Z5.out)
            have hz8 := (heap_set_other hne2 4 (.int .i64 id)).trans ((heap_set_other hne2 2 (.int .i64 (now + delayN (rt + 1)))).trans ((heap_set_other hne2 6 (.string (ownS retryC g))).trans ((heap_set_other hne2 0 (.int .i64 2)).trans Z7.out)))
            have k8 := (((K7.out.mono (G := fun b => b = w5.heap.size ∨ b = w.heap.size + 1) (fun b _ e => .inl e)).setCell (p := ⟨w5.heap.size, 0, none⟩) (.inl (.inl rfl)) (.int .i64 2)).setCell (p := ⟨w5.heap.size, 6, none⟩) (.inl (.inl rfl)) (.string (ownS retryC g))).setCell (p := ⟨w5.heap.size, 2, none⟩) (.inl (.inl rfl)) (.int .i64 (now + delayN (rt + 1))) |>.setCell (p := ⟨w5.heap.size, 4, none⟩) (.inl (.inl rfl)) (.int .i64 id)
            have Hfin := box (put_msg hz8 rfl (.int .i64 2) (.int .i64 0) (.int .i64 (now + delayN (rt + 1))) (.int .i64 (rt + 1)) (.int .i64 id) (.int .i64 now) (.string (ownS retryC g)) (.string tg) (.string bd) (.slice va ks.length vcap))
            have K8 := box (keeps_put_msg k8 (b := w.heap.size + 1) (.inr rfl) (.int .i64 2) (.int .i64 0) (.int .i64 (now + delayN (rt + 1))) (.int .i64 (rt + 1)) (.int .i64 id) (.int .i64 now) (.string (ownS retryC g)) (.string tg) (.string bd) (.slice va ks.length vcap))
            have Hst8 := box (strs_keep Hst.out K8.out (fun a n c e hn hf => by have := Hfr.out a n c e hn; have := strs_lt Hst.out a n c e hn; omega))
            have hww := Nat.le_trans Ha.out.size K5.out.size
            have C8 := box (Below.trans (Ha.out.trans K5.out) (K8.out.below (B := w.heap.size) hww (fun b hf => by rcases hf with rfl | rfl <;> omega)))
            clear k8 hlt hlt5 c3
            have x0 := cell_of XB.out 0
            have x1 := cell_of XB.out 1
            have x2 := cell_of XB.out 2
            have x3 := cell_of XB.out 3
            have x4 := cell_of XB.out 4
            have x5 := cell_of XB.out 5
            have x6 := cell_of XB.out 6
            have x7 := cell_of XB.out 7
            have x8 := cell_of XB.out 8
            have x9 := cell_of XB.out 9
            have hlx := heap_lt XB.out
            have z0 := cell_of hz8 0
            have z1 := cell_of hz8 1
            have z2 := cell_of hz8 2
            have z3 := cell_of hz8 3
            have z4 := cell_of hz8 4
            have z5 := cell_of hz8 5
            have z6 := cell_of hz8 6
            have z7 := cell_of hz8 7
            have z8 := cell_of hz8 8
            have z9 := cell_of hz8 9
            have f0 := free_of hz8 0
            have f1 := free_of hz8 1
            have f2 := free_of hz8 2
            have f3 := free_of hz8 3
            have f4 := free_of hz8 4
            have f5 := free_of hz8 5
            have f6 := free_of hz8 6
            have f7 := free_of hz8 7
            have f8 := free_of hz8 8
            have f9 := free_of hz8 9
            have hlz := heap_lt hz8
            clear hz8
            go_wp2_with fail
            (try simp only [Exit.inBlock, Exit.then])
            refine bodyPost_ret (ret_msg rfl _ _ (w.heap.size + 1) _ rfl Hfin.out rfl) rfl ?_
            refine ⟨_, 0, rfl, C8.out, fun h => absurd (show AgainOk _ id g now from ⟨hg, Hr.out, (Bool.and_eq_true _ _ ▸ Htm.out).1, (Bool.and_eq_true _ _ ▸ Htm.out).2⟩) h, fun _ => ⟨rfl, .slice va ks.length vcap, ?_, Hst8.out, fun a n c e hn => by have := Hfr.out a n c e hn; omega⟩⟩
            unfold againS
            rw [if_neg (show ¬ 4 ≤ rt by omega)]
    · rw [decide_eq_false hr]
      rintro e w3 ⟨rfl, hc3⟩
      have K3 := box (K2.out.trans hc3)
      have Z3 := box (HJ.out w3 K3.out).2
      have z0 := cell_of Z3.out 0
      have z1 := cell_of Z3.out 1
      have z2 := cell_of Z3.out 2
      have z3 := cell_of Z3.out 3
      have z4 := cell_of Z3.out 4
      have z5 := cell_of Z3.out 5
      have z6 := cell_of Z3.out 6
      have z7 := cell_of Z3.out 7
      have z8 := cell_of Z3.out 8
      have z9 := cell_of Z3.out 9
      have f0 := free_of Z3.out 0
      have f1 := free_of Z3.out 1
      have f2 := free_of Z3.out 2
      have f3 := free_of Z3.out 3
      have f4 := free_of Z3.out 4
      have f5 := free_of Z3.out 5
      have f6 := free_of Z3.out 6
      have f7 := free_of Z3.out 7
      have f8 := free_of Z3.out 8
      have f9 := free_of Z3.out 9
      have hlz := heap_lt Z3.out
      have Hfin := box (Hbad.out w3 K3.out).1
      have Hcal := box (Hbad.out w3 K3.out).2
      go_wp2_with fail
      (try simp only [Exit.inBlock, Exit.then])
      refine bodyPost_ret (ret_msg rfl _ _ (w.heap.size + 1) _ rfl Hfin.out rfl) rfl ?_
      exact ⟨_, 1, rfl, Hcal.out, fun _ => ⟨by rw [hg]; rfl, rfl⟩, fun h => absurd h.2.1 hr⟩
end Go.Proofs.Ytofffmnkoelifaa.rc

/- Layers 6 and 12: a record as an argument; what is too great to be played; the example. -/
namespace Go.Proofs.Ytofffmnkoelifaa.rc
open Go.ChangeShapes Go.WideShapes Go.ChangeAt Go.RowKit Go.Shelf
open Go.Proofs.Ytofffmnkoelifaa.nm Go.Proofs.Ytofffmnkoelifaa.vs

/-- A record as an argument. -/
def MsgR : Reads MsgS := fun w cs m => ∃ kv, cs = (msgA m kv).toList ∧ RowsAt StrR 1 w kv m.keys ∧ m.topic.size ≤ maxLen ∧ m.tag.size ≤ maxLen ∧ m.body.size ≤ maxLen ∧ (-9223372036854775808 ≤ m.kind ∧ m.kind ≤ 9223372036854775807) ∧ (-9223372036854775808 ≤ m.retry ∧ m.retry ≤ 9223372036854775807)
set_option maxRecDepth 100000 in
theorem opens_msg : Opens Try.prog 33 MsgR := fun H enc w base sp held fuel cs x h => by
  obtain ⟨xs, n, _, _, hlen, hxl, hg⟩ := DataW.trod_struct Try.underlying33 h
  rw [show Try.prog.cellsOf 33 = 10 by kernel_rfl] at hlen
  match cs, hlen with
  | [c0, c1, c2, c3, c4, c5, c6, c7, c8, c9], _ =>
    have hx : ∀ i, i < xs.length → ∃ y, xs[i]? = some y := fun i hi => ⟨_, List.getElem?_eq_getElem hi⟩
    simp only [List.size_toArray, List.length_cons, List.length_nil] at hxl
    have g0 := hg 0 _ rfl
    have g1 := hg 1 _ rfl
    have g2 := hg 2 _ rfl
    have g3 := hg 3 _ rfl
    have g4 := hg 4 _ rfl
    have g5 := hg 5 _ rfl
    have g6 := hg 6 _ rfl
    have g7 := hg 7 _ rfl
    have g8 := hg 8 _ rfl
    have g9 := hg 9 _ rfl
    clear hg
    rw [List.getElem?_eq_getElem (by omega)] at g0 g1 g2 g3 g4 g5 g6 g7 g8 g9
    obtain ⟨a0, h0, r0, q0⟩ := opens_int Try.underlying3 _ _ _ _ _ _ _ _ _ g0
    obtain ⟨a1, h1, _⟩ := opens_int Try.underlying3 _ _ _ _ _ _ _ _ _ g1
    obtain ⟨a2, h2, _⟩ := opens_int Try.underlying3 _ _ _ _ _ _ _ _ _ g2
    obtain ⟨a3, h3, r3, q3⟩ := opens_int Try.underlying3 _ _ _ _ _ _ _ _ _ g3
    obtain ⟨a4, h4, _⟩ := opens_int Try.underlying3 _ _ _ _ _ _ _ _ _ g4
    obtain ⟨a5, h5, _⟩ := opens_int Try.underlying3 _ _ _ _ _ _ _ _ _ g5
    obtain ⟨a6, h6, r6⟩ := opens_string Try.underlying9 _ _ _ _ _ _ _ _ _ g6
    obtain ⟨a7, h7, r7⟩ := opens_string Try.underlying9 _ _ _ _ _ _ _ _ _ g7
    obtain ⟨a8, h8, r8⟩ := opens_string Try.underlying9 _ _ _ _ _ _ _ _ _ g8
    obtain ⟨a9, kv, h9, r9⟩ := opens_slice (c := 1) Try.underlying31 (by kernel_rfl) (by decide) (opens_string Try.underlying9) _ _ _ _ _ _ _ _ _ g9
    refine ⟨⟨a0, a1, a2, a3, a4, a5, a6, a7, a8, a9⟩, kv, ?_, r9, r6, r7, r8, ⟨r0, q0⟩, r3, q3⟩
    have n1 : Try.prog.cellsOf 3 = 1 := by kernel_rfl
    have n2 : Try.prog.cellsOf 9 = 1 := by kernel_rfl
    have n3 : Try.prog.cellsOf 31 = 1 := by kernel_rfl
    simp [n1, n2, n3] at h0 h1 h2 h3 h4 h5 h6 h7 h8 h9
    subst h0 h1 h2 h3 h4 h5 h6 h7 h8 h9
    rfl
theorem struct_shape {P : Program} {w : World} {r : Reach} {b : Nat} {t : TypeId} {v : Value} {fs : Array Field} (ht : P.underlying t = some (.struct fs)) (h : Value.okWide P w r b t v) : ∃ cs, v = .agg cs := by
  obtain ⟨cs, h1, _⟩ := okWide_struct ht h; exact ⟨cs, h1⟩
/-- A record and its keys' row, as they come in. -/
def MsgIn (w : World) (y : MsgS × Value) : Prop := RowsAt StrR 1 w y.2 y.1.keys ∧ y.1.topic.size ≤ maxLen ∧ y.1.tag.size ≤ maxLen ∧ y.1.body.size ≤ maxLen ∧ (-9223372036854775808 ≤ y.1.kind ∧ y.1.kind ≤ 9223372036854775807) ∧ (-9223372036854775808 ≤ y.1.retry ∧ y.1.retry ≤ 9223372036854775807)
theorem msg_arg {w : World} {v : Value} (hv : ∃ cs, v = .agg cs) (h : ∃ y, MsgR w v.cells.toList y) : ∃ y : MsgS × Value, v = .agg (msgA y.1 y.2) ∧ MsgIn w y := by
  obtain ⟨cs, rfl⟩ := hv
  obtain ⟨y, kv, he, hr⟩ := h
  refine ⟨(y, kv), ?_, hr⟩
  simp only [Value.cells] at he
  rw [Array.toList_inj.1 he]
/-- It is played. -/
def Small (m : MsgS) : Prop := m.body.size ≤ 2000 ∧ m.topic.size ≤ 100 ∧ m.tag.size ≤ 100 ∧ m.keys.length ≤ 10 ∧ ∀ s ∈ m.keys, s.size ≤ 100
def GreatDone (m : MsgS) (w : World) (e : Ending) (w' : World) : Prop := ∃ g, e = .returned (.bool g) ∧ Calm w w' ∧ (g = false → Small m)
set_option maxRecDepth 100000 in
set_option maxHeartbeats 4000000 in
theorem Great_any (b : Nat) (m : MsgS) (kv : Value) (w : World) (h : MsgAt w b m kv) (hk : StrsAt w kv m.keys) (hs : ∀ s ∈ m.keys, s.size ≤ maxLen) (hz : m.body.size ≤ maxLen ∧ m.topic.size ≤ maxLen ∧ m.tag.size ≤ maxLen ∧ m.keys.length ≤ maxLen) :
    Calls Try.prog 16 #[.slice (some ⟨b, 0, none⟩) 1 1] w (GreatDone m w) := by
  obtain ⟨kd, q, du, rt, rf, bn, tp, tg, bd, ks⟩ := m
  simp only at hk hs hz
  obtain ⟨z1, z2, z3, z4⟩ := hz
  obtain ⟨ka, kcap, rfl, hcells⟩ := hk.uni
  have Hc := box hcells
  have Hs := box hs
  unfold maxLen at z1 z2 z3 z4
  have c0 := cell_of h 0
  have c1 := cell_of h 1
  have c2 := cell_of h 2
  have c3 := cell_of h 3
  have c4 := cell_of h 4
  have c5 := cell_of h 5
  have c6 := cell_of h 6
  have c7 := cell_of h 7
  have c8 := cell_of h 8
  have c9 := cell_of h 9
  have hlt := heap_lt h
  have Ha := box ((Calm.refl w).alloc (.cells (msgA ⟨kd, q, du, rt, rf, bn, tp, tg, bd, ks⟩ (.slice ka ks.length kcap)) 33))
  clear h hk hs hcells
  go_enter Try.func16, Try.ntmps16
  go_wp2_with fail
  go_loopw [9] (fun i wr => (i = .int .i64 0 ∧ wr = w) ∨ (i = .int .i64 1 ∧ Calm w wr ∧ Small ⟨kd, q, du, rt, rf, bn, tp, tg, bd, ks⟩)) (fun i _ => 1 - (intOf i).toNat)
  case atStart => exact .inl ⟨rfl, rfl⟩
  case round =>
    rcases hrel with ⟨rfl, rfl⟩ | ⟨rfl, hcal, hsm⟩
    · go_wp2_with fail
      all_goals first | (go_ret; exact ⟨true, rfl, Ha.out, fun h => by cases h⟩) | skip
      go_loopw [38] (fun i wr' => ∃ k : Nat, k ≤ ks.length ∧ i = .int .i64 k ∧ Calm wr wr' ∧ ∀ j (hj : j < k) (hj' : j < ks.length), ks[j].size ≤ 100) (fun i _ => ks.length - (intOf i).toNat)
      case atStart => exact ⟨0, Nat.zero_le _, rfl, Ha.out, fun j hj => absurd hj (Nat.not_lt_zero _)⟩
      case round =>
        obtain ⟨k, hk, rfl, hcal, hall⟩ := hrel
        have HC := box hcal
        have HA := box hall
        clear hcal hall c0 c1 c2 c3 c4 c5 c6 c7 c8 c9 hlt
        by_cases hkl : k < ks.length
        · obtain ⟨kb, koff, rfl, hkb, hkc⟩ := Hc.out k hkl
          have kc := (HC.out.cell (p := ⟨kb, koff + k, none⟩) hkb).trans hkc
          have klt := Nat.lt_of_lt_of_le hkb HC.out.size
          rw [List.getD_eq_getElem?_getD, List.getElem?_eq_getElem hkl] at kc
          simp only [Option.getD_some] at kc
          have HA1 := box (show ks[k].size ≤ 100 → ∀ j (hj : j < k + 1) (hj' : j < ks.length), ks[j].size ≤ 100 from fun h j hj hj' => by
            by_cases e : j = k
            · subst e; exact h
            · exact HA.out j (by omega) hj')
          have hss := Hs.out _ (List.getElem_mem hkl)
          obtain ⟨s, hs⟩ : ∃ s, ks[k] = s := ⟨_, rfl⟩
          rw [hs] at kc HA1 hss
          unfold maxLen at hss
          clear hs hkc
          by_cases h100 : 100 < s.size
          · go_wp2_with fail
            go_ret
            exact ⟨true, rfl, HC.out, fun h => by cases h⟩
          · go_wp2_with fail
            go_roundw
            case rel => exact ⟨k + 1, by omega, by go_num, HC.out, HA1.out (by omega)⟩
            case measure => simp [intOf]; omega
        · obtain rfl : k = ks.length := by omega
          have Hsm := box (show Small ⟨kd, q, du, rt, rf, bn, tp, tg, bd, ks⟩ from ⟨by simp only; omega, by simp only; omega, by simp only; omega, by simp only; omega, fun s hs => by
            obtain ⟨j, hj, rfl⟩ := List.mem_iff_getElem.1 hs
            exact HA.out j hj hj⟩)
          go_wp2_with fail
          go_roundw
          case rel => exact .inr ⟨rfl, HC.out, Hsm.out⟩
          case measure => simp [intOf]
    · go_wp2_with fail
      go_ret
      exact ⟨false, rfl, hcal, fun _ => hsm⟩
end Go.Proofs.Ytofffmnkoelifaa.rc

/- Two lists of texts are compared. -/
namespace Go.Proofs.Ytofffmnkoelifaa
open Go.ChangeShapes Go.WideShapes Go.ChangeAt Go.RowKit

/-- Are two lists one? -/
theorem Texts_any (v u : Value) (l m : List ByteArray) (w : World) (h : StrsAt w v l) (g : StrsAt w u m) (hal : l.length ≤ 4294967296) (hbl : m.length ≤ 4294967296) : Calls Try.prog 46 #[v, u] w fun e w' => e = .returned (.bool (decide (l = m))) ∧ Calm w w' := by
  obtain ⟨a, acap, rfl, ha⟩ := h.uni
  obtain ⟨b, bcap, rfl, hb⟩ := g.uni
  by_cases hlen : l.length = m.length
  · have ha' := box ha
    have hb' := box hb
    have Hl := box hal
    clear ha hb hbl
    rw [← hlen]
    obtain ⟨rr, hrr⟩ : ∃ rr, decide (l = m) = rr := ⟨_, rfl⟩
    rw [hrr]
    have Hrr := box hrr.symm
    clear hrr
    go_enter Try.func46, Try.ntmps46
    go_wp2_with fail
    go_loopw [5] (fun i wr => ∃ k : Nat, k ≤ l.length ∧ i = .int .i64 k ∧ l.take k = m.take k ∧ Calm w wr) (fun i _ => l.length - (intOf i).toNat)
    case atStart => exact ⟨0, Nat.zero_le _, rfl, rfl, .refl _⟩
    case round =>
      obtain ⟨k, hk, rfl, hpre, hC⟩ := hrel
      have Hpre := box hpre
      have HC := box hC
      clear hpre hC
      by_cases hlt : k < l.length
      · obtain ⟨ab, aoff, rfl, hal2, hac⟩ := ha'.out k hlt
        obtain ⟨bb, boff, rfl, hbl2, hbc⟩ := hb'.out k (by omega)
        have hs1 := box (show l.take (k + 1) = l.take k ++ [l[k]] from List.take_succ_eq_append_getElem hlt)
        have hs2 := box (show m.take (k + 1) = m.take k ++ [m[k]'(by omega)] from List.take_succ_eq_append_getElem (by omega))
        have hne := box (fun (h : l[k] ≠ m[k]'(by omega)) => (decide_eq_false (fun e => h (by subst e; rfl)) : decide (l = m) = false))
        have hga : l.getD k ByteArray.empty = l[k] := by rw [List.getD_eq_getElem?_getD, List.getElem?_eq_getElem hlt]; rfl
        have hgb : m.getD k ByteArray.empty = m[k]'(by omega) := by rw [List.getD_eq_getElem?_getD, List.getElem?_eq_getElem (by omega)]; rfl
        rw [hga] at hac
        rw [hgb] at hbc
        clear hga hgb
        obtain ⟨x, hx⟩ : ∃ x, l[k] = x := ⟨_, rfl⟩
        obtain ⟨y, hy⟩ : ∃ y, m[k]'(by omega) = y := ⟨_, rfl⟩
        rw [hx] at hac hs1 hne
        rw [hy] at hbc hs2 hne
        clear hx hy
        have hac' := (HC.out.cell (p := ⟨ab, aoff + k, none⟩) hal2).trans hac
        have hbc' := (HC.out.cell (p := ⟨bb, boff + k, none⟩) hbl2).trans hbc
        have hal3 := Nat.lt_of_lt_of_le hal2 HC.out.size
        have hbl3 := Nat.lt_of_lt_of_le hbl2 HC.out.size
        have hki : (k : Int) < (l.length : Int) := by omega
        have hk0 : (0 : Int) ≤ (k : Int) := by omega
        clear hac hbc
        by_cases heq : x = y
        · subst heq
          go_wp2_with (first | go_quiet (fail) | fail)
          go_wp2_with fail
          go_roundw
          case rel => exact ⟨k + 1, by omega, by go_num, by rw [hs1.out, hs2.out, Hpre.out], HC.out.drewN _⟩
          case measure => simp [intOf]; omega
        · have hb1 : (x.toList == y.toList) = false := beq_eq_false_iff_ne.2 (fun e => heq (ba_ext (by rw [← Lib.toList_data, ← Lib.toList_data]; exact e)))
          have hne := box (hne.out heq)
          clear heq
          go_wp2_with (first | go_quiet (fail) | fail)
          go_wp2_with fail
          go_ret
          exact ⟨ret_bool (by rw [Hrr.out, hne.out]), HC.out.drewN _⟩
      · obtain rfl : k = l.length := by omega
        have hd : decide (l = m) = true := decide_eq_true (by
          have := Hpre.out
          rw [List.take_length, hlen, List.take_length] at this
          exact this)
        have hd := box hd
        go_wp2_with fail
        go_ret
        exact ⟨ret_bool (by rw [Hrr.out, hd.out]), HC.out⟩
  · have hd : decide (l = m) = false := decide_eq_false (fun e => hlen (by rw [e]))
    have hne : (l.length == m.length) = false := by rw [beq_eq_false_iff_ne]; exact hlen
    rw [hd]
    clear hd ha hb
    go_enter Try.func46, Try.ntmps46
    go_wp2_with fail
    all_goals first | (go_ret; exact ⟨rfl, .refl _⟩) | (exfalso; omega)
end Go.Proofs.Ytofffmnkoelifaa

/- Layer 6: two records are one just if all of them is. -/
namespace Go.Proofs.Ytofffmnkoelifaa.rc
open Go.ChangeShapes Go.WideShapes Go.ChangeAt Go.RowKit Go.Shelf
open Go.Proofs.Ytofffmnkoelifaa.nm Go.Proofs.Ytofffmnkoelifaa.vs

theorem MsgS.eq_iff {a b : MsgS} : a = b ↔ a.kind = b.kind ∧ a.queue = b.queue ∧ a.due = b.due ∧ a.retry = b.retry ∧ a.ref = b.ref ∧ a.born = b.born ∧ a.topic = b.topic ∧ a.tag = b.tag ∧ a.body = b.body ∧ a.keys = b.keys := by
  cases a; cases b; simp
instance : DecidableEq MsgS := fun _ _ => decidable_of_iff _ MsgS.eq_iff.symm
/-- The two differ somewhere. -/
theorem differ {a b : MsgS} {r : Bool} (hr : Box (decide (a = b) = r)) (h : a ≠ b) : false = r := by rw [← hr.out, eq_comm]; exact decide_eq_false h
/-- Lists of texts, by the library. -/
theorem Equal_any (v u : Value) (l m : List ByteArray) (w : World) (h : StrsAt w v l) (g : StrsAt w u m) (hl : l.length ≤ 4294967296) (hm : m.length ≤ 4294967296) :
    Calls Try.prog 60 #[v, u] w fun e w' => e = .returned (.bool (decide (l = m))) ∧ Calm w w' := by
  by_cases hlen : l.length = m.length
  · rcases h with ⟨rfl, a, cap, rfl⟩ | ⟨b, off, cap, rfl, hc⟩
    · obtain ⟨ua, ucap, rfl, _⟩ := g.uni
      refine (Try.slices_Equal_string_empty a ua cap m.length ucap w (by omega)).mono ?_
      rintro e w' ⟨rfl, rfl⟩
      have : m = [] := List.eq_nil_of_length_eq_zero (by simpa using hlen.symm)
      exact ⟨ret_bool (by subst this; rfl), Calm.refl _⟩
    · rcases g with ⟨rfl, a2, cap2, rfl⟩ | ⟨b2, off2, cap2, rfl, hc2⟩
      · have : l = [] := List.eq_nil_of_length_eq_zero (by simpa using hlen)
        subst this
        refine (Try.slices_Equal_string_empty (some ⟨b, off, none⟩) a2 cap 0 cap2 w (by decide)).mono ?_
        rintro e w' ⟨rfl, rfl⟩
        exact ⟨rfl, Calm.refl _⟩
      · refine (Try.slices_Equal_string b off l.length cap b2 off2 m.length cap2 l m w (Nat.le_refl _) (Nat.le_refl _) (by omega) (by omega) hc hc2).mono ?_
        rintro e w' ⟨rfl, q, rfl⟩
        exact ⟨ret_bool (by rw [List.take_length, List.take_length]), (Calm.refl _).drewN _⟩
  · obtain ⟨va, vcap, rfl, _⟩ := h.uni
    obtain ⟨ua, ucap, rfl, _⟩ := g.uni
    refine (Try.slices_Equal_string_lens va ua l.length vcap m.length ucap w hlen).mono ?_
    rintro e w' ⟨rfl, rfl⟩
    exact ⟨ret_bool (by rw [eq_comm]; exact decide_eq_false (fun e => hlen (by rw [e]))), Calm.refl _⟩
set_option maxRecDepth 100000 in
set_option maxHeartbeats 8000000 in
theorem rSame_any (a b : MsgS) (ka kb : Value) (w : World) (ha : StrsAt w ka a.keys) (hb : StrsAt w kb b.keys) (la : a.keys.length ≤ 1000000) (lb : b.keys.length ≤ 1000000) :
    Calls Try.prog 20 #[.agg (msgA a ka), .agg (msgA b kb)] w fun e w' => e = .returned (.bool (decide (a = b))) ∧ Calm w w' := by
  obtain ⟨r, hr⟩ : ∃ r, decide (a = b) = r := ⟨_, rfl⟩
  rw [hr]
  have Hr := box hr
  clear hr
  have He := box (fun W (hW : Calm w W) => Texts_any ka kb a.keys b.keys W (ha.calm hW) (hb.calm hW) (by omega) (by omega))
  clear ha hb la lb
  obtain ⟨ak, aq, ad, ar, af, an, at_, ag, ab, aks⟩ := a
  obtain ⟨bk, bq, bd, br, bf, bn, bt, bg, bb, bks⟩ := b
  go_enter Try.func20, Try.ntmps20
  go_wp2_with fail
  all_goals try (go_ret; exact ⟨ret_bool (differ Hr (fun e => by cases e; simp_all)), ((Calm.refl w).alloc _).alloc _⟩)
  refine (He.out _ (((Calm.refl w).alloc _).alloc _)).mono ?_
  rintro e w1 ⟨rfl, hc⟩
  have Hc := box ((((Calm.refl w).alloc _).alloc _).trans hc)
  clear hc
  have Hf := box (show decide (aks = bks) = r by
    rw [← Hr.out]
    have e6 : at_ = bt := ba_ext (by rw [← Lib.toList_data, ← Lib.toList_data]; assumption)
    have e7 : ag = bg := ba_ext (by rw [← Lib.toList_data, ← Lib.toList_data]; assumption)
    have e8 : ab = bb := ba_ext (by rw [← Lib.toList_data, ← Lib.toList_data]; assumption)
    subst e6 e7 e8
    subst_vars
    exact decide_eq_decide.2 ⟨fun e => by rw [e], fun e => by cases e; rfl⟩)
  go_wp2_with fail
  go_ret
  exact ⟨ret_bool Hf.out, Hc.out⟩
set_option maxRecDepth 100000 in
set_option maxHeartbeats 8000000 in
theorem Same_any (a b : MsgS) (ka kb : Value) (w : World) (ha : StrsAt w ka a.keys) (hb : StrsAt w kb b.keys) (la : a.keys.length ≤ 1000000) (lb : b.keys.length ≤ 1000000) :
    Calls Try.prog 27 #[.agg (msgA a ka), .agg (msgA b kb)] w fun e w' => e = .returned (.bool (decide (a = b))) ∧ Calm w w' := by
  obtain ⟨r, hr⟩ : ∃ r, decide (a = b) = r := ⟨_, rfl⟩
  rw [hr]
  have Hr := box hr
  clear hr
  have He := box (fun W (hW : Calm w W) => Equal_any ka kb a.keys b.keys W (ha.calm hW) (hb.calm hW) (by omega) (by omega))
  clear ha hb la lb
  obtain ⟨ak, aq, ad, ar, af, an, at_, ag, ab, aks⟩ := a
  obtain ⟨bk, bq, bd, br, bf, bn, bt, bg, bb, bks⟩ := b
  go_enter Try.func27, Try.ntmps27
  go_wp2_with fail
  all_goals try (go_ret; exact ⟨ret_bool (differ Hr (fun e => by cases e; simp_all)), ((Calm.refl w).alloc _).alloc _⟩)
  refine (He.out _ (((Calm.refl w).alloc _).alloc _)).mono ?_
  rintro e w1 ⟨rfl, hc⟩
  have Hc := box ((((Calm.refl w).alloc _).alloc _).trans hc)
  clear hc
  have Hf := box (show decide (aks = bks) = r by
    rw [← Hr.out]
    have e6 : at_ = bt := ba_ext (by rw [← Lib.toList_data, ← Lib.toList_data]; assumption)
    have e7 : ag = bg := ba_ext (by rw [← Lib.toList_data, ← Lib.toList_data]; assumption)
    have e8 : ab = bb := ba_ext (by rw [← Lib.toList_data, ← Lib.toList_data]; assumption)
    subst e6 e7 e8
    subst_vars
    exact decide_eq_decide.2 ⟨fun e => by rw [e], fun e => by cases e; rfl⟩)
  go_wp2_with fail
  go_ret
  exact ⟨ret_bool Hf.out, Hc.out⟩
end Go.Proofs.Ytofffmnkoelifaa.rc
