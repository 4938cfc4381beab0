/- LevelChain: a message that fails again and again comes four times, each time later than the one ahead, and then is given up; its body, tag and keys stay. No condition. -/
import Derived.Test.YtofffmnkoelifaaRows
import Derived.WalkKit
import Derived.ProofKit
import Derived.OpenShut
import Derived.Handy
import Derived.Deep.LoopGhost
import Derived.Lib.Hide
import Derived.Lib.Strings
import Derived.SizedLaws
import Derived.Deep.Slices
import Derived.Shelf.SlIter.Nil
import Derived.Ground.GgzProg
import Derived.Shelf.SortM.Plain
import Derived.Shelf.SortM.SortNone
import Derived.Ground.SlgmProg
import Derived.Test.YtofffmnkoelifaaProg
import Derived.Shelf.Strings.Builder1
import Derived.Shelf.Strings.Builder2
import Derived.Shelf.Small.Bits
import Derived.Shelf.Small.Wraps
import Derived.Shelf.Strings.BuilderF
import Derived.Shelf.Strings.BuilderK
import Derived.Shelf.Strings.Builder2Cap
import Derived.Shelf.Strconv.Itoa0
import Derived.Shelf.Sort.Plain
import Derived.Shelf.GgClosure.StringsIndexFunc
import Derived.Ground.GgwProg
import Derived.Shelf.GgClosure.StringsIndexFuncTop
import Derived.Shelf.GgClosure.StringsRunes
import Derived.Shelf.Strings.Prefix
import Derived.Shelf.Bits.Mul64
import Derived.Shelf.Strings.Repeat
import Derived.Shelf.Strings.BuilderCap
import Derived.Shelf.Slices.Equal
import Derived.Ground.Names2Prog
import Derived.Shelf.Slices.Clone
import Derived.Shelf.Slices.CompactS
import Derived.Shelf.Slices.SearchI
import Derived.Shelf.Slices.Cells
import Derived.Shelf.Slices.In.SortNone
import Derived.Shelf.Slices.Empties2
import Derived.Ground.SlgnProg
import Derived.Shelf.SlicesE.Equal
import Derived.Shelf.SlicesE.Compact
import Derived.Shelf.SlicesE.Clone
import Derived.Ground.SlgfProg
import Derived.Shelf.SlicesE.IndexFunc
import Derived.Shelf.SlicesE.DeleteFunc
import Derived.RangeFuncBox
import Derived.RangeFuncLeaves
import Derived.Shelf.Abstract
import Derived.OwnWalkIn
import Derived.TacticsInMore
import Derived.LoopNIn
import Derived.LoopIn
import Derived.Maps.AppendAt
import Derived.Lib.SlicesCompact
import Derived.Deep.QuietTactic
import Derived.BigQuiet
import Derived.Laws.ResultCell
import Derived.Laws.Rows
import Derived.Deep.RegionHeld3
import Derived.Test.YtofffmnkoelifaaPk9
namespace Go.Proofs.Ytofffmnkoelifaa.lchain
open Go.ChangeShapes Go.WideShapes Go.ChangeAt Go.RowKit Go.Shelf
open Go.Proofs.Ytofffmnkoelifaa.nm Go.Proofs.Ytofffmnkoelifaa.vs Go.Proofs.Ytofffmnkoelifaa.rc

theorem awake_any (W : World) : Calls Try.prog 15 #[] W fun e w' => e = .returned (.bool true) ∧ W = w' := by
  have hslot : ∀ w, Calls Try.prog 39 #[.int .i64 17] w fun e w' => e = .returned (.int .i64 1) ∧ w = w' := fun w => by
    go_enter Try.func39, Try.ntmps39
    go_wp2_with fail
    go_ret
    exact ⟨rfl, rfl⟩
  go_enter Try.func15, Try.ntmps15
  go_wp2_with fail
  refine (Delay_any 3 _ (by decide) (by decide)).mono ?_
  rw [show delayN 3 = 8 by decide]
  rintro e w1 ⟨rfl, rfl⟩
  go_wp2_with fail
  refine (hslot _).mono ?_
  rintro e w1 ⟨rfl, rfl⟩
  go_wp2_with fail
  go_ret
  exact ⟨rfl, rfl⟩
/-- What is held of the message between two rounds. -/
structure Inv (m : MsgS) (g : ByteArray) (now : Int) (k : Nat) (x : MsgS) (at_ delay : Int) : Prop where
  body : x.body = m.body
  tag : x.tag = m.tag
  keys : x.keys = m.keys
  retry : x.retry = k
  first : k = 0 → x.kind = 1 ∧ at_ = now ∧ delay = 0
  later : k ≠ 0 → x.kind = 3 ∧ groupB g = true ∧ Right3 x ∧ delay = delayN k
  time : now ≤ at_ ∧ at_ ≤ now + (delayN ((k : Int) + 1) - 2)
theorem own_yes (h s : ByteArray) (g : groupB s = true) : ownS h s = h ++ s := by unfold ownS; rw [g]; rfl
theorem has_app (h s : ByteArray) : hasS (h ++ s) h = true := by
  unfold hasS Lib.hasPrefix; rw [append_toList]; simp
theorem cut_app (h s : ByteArray) : cutS (h ++ s) h = s := by
  apply ba_ext
  unfold cutS Lib.trimPrefix
  have := has_app h s
  unfold hasS at this
  rw [if_pos this, append_toList]
  simp
theorem top_retry (s : ByteArray) (g : groupB s = true) : topicB (retryC ++ s) = true := by
  unfold topicB ofOk hitS
  rw [has_app, cut_app, g]; rfl
theorem delay_two (k : Nat) (h : k ≤ 4) : delayN ((k : Int) + 1) ≤ 32 ∧ (k < 4 → delayN (((k + 1 : Nat) : Int) + 1) = delayN ((k : Int) + 1) + delayN ((k : Int) + 1)) := by
  have : k = 0 ∨ k = 1 ∨ k = 2 ∨ k = 3 ∨ k = 4 := by omega
  rcases this with rfl | rfl | rfl | rfl | rfl <;> decide
theorem delay_next (k : Nat) (h : k < 4) : (if k = 0 then (0 : Int) else delayN k) < delayN ((k : Int) + 1) ∧ delayN ((k : Int) + 1) ≤ 16 := by
  have : k = 0 ∨ k = 1 ∨ k = 2 ∨ k = 3 := by omega
  rcases this with rfl | rfl | rfl | rfl <;> decide
set_option maxRecDepth 100000 in
set_option maxHeartbeats 8000000 in
theorem walk (W : World) (y : MsgS × Value) (r : MsgIn W y) (g : ByteArray) (hg : g.size ≤ maxLen) (c : Int) (hw : (Lit.int .u32 c).wf = true) :
    Calls Try.prog 5 #[.agg (msgA y.1 y.2), .string g, .int .u32 c] W fun e W' => e = .returned (.bool true) ∧ Calm W W' := by
  obtain ⟨m, kv⟩ := y
  obtain ⟨hr, z1, z2, z3, zk, zr⟩ := r
  simp only at hr z1 z2 z3 zk zr
  have hc : 0 ≤ c ∧ c ≤ 4294967295 := by unfold Lit.wf at hw; simp [IntKind.min, IntKind.max, IntKind.bits, IntKind.signed] at hw; omega
  obtain ⟨hc0, hc1⟩ := hc
  obtain ⟨hst, hkz⟩ := RowsAt.strs hr
  obtain ⟨ka, kcap, rfl, _⟩ := hst.uni
  have Hst := box hst
  have Hkz := box hkz
  have Hz := box (show m.body.size ≤ maxLen ∧ m.topic.size ≤ maxLen ∧ m.tag.size ≤ maxLen ∧ m.keys.length ≤ maxLen from ⟨z3, z1, z2, hkz.2⟩)
  clear hr hst hkz hw z1 z2 z3 hg
  have Hn := box (heap_new W (.cells (msgA m (.slice ka m.keys.length kcap)) 33))
  have Ha := box ((Calm.refl W).alloc (.cells (msgA m (.slice ka m.keys.length kcap)) 33))
  have hcw : IntKind.i64.wrap c = c := IntWalk.i64_in _ (by omega)
  go_enter Try.func5, Try.ntmps5
  go_wp2_with fail
  refine (awake_any _).mono ?_
  rintro e w1 ⟨rfl, rfl⟩
  have J0 := Hn.out
  have c0 := cell_of J0 0
  have c1 := cell_of J0 1
  have c2 := cell_of J0 2
  have c3 := cell_of J0 3
  have c4 := cell_of J0 4
  have c5 := cell_of J0 5
  have c6 := cell_of J0 6
  have c7 := cell_of J0 7
  have c8 := cell_of J0 8
  have c9 := cell_of J0 9
  have hlt := heap_lt J0
  clear J0
  have Hn2 := box (heap_new (W.alloc (.cells (msgA m (.slice ka m.keys.length kcap)) 33)) (.cells (msgA m (.slice ka m.keys.length kcap)) 33))
  have Ha2 := box ((Calm.refl (W.alloc (.cells (msgA m (.slice ka m.keys.length kcap)) 33))).alloc (.cells (msgA m (.slice ka m.keys.length kcap)) 33))
  go_wp2_with fail
  have hgr := Great_any (W.heap.size + 1) m (.slice ka m.keys.length kcap) _ (by have := Hn2.out; rw [World.size_alloc] at this; exact this) (Hst.out.calm (Ha.out.trans Ha2.out)) Hkz.out.1 Hz.out
  refine hgr.mono ?_
  clear hgr
  rintro e w2 ⟨gr, rfl, hc2, hsm⟩
  have C2 := box (Ha.out.trans (Ha2.out.trans hc2))
  have J2 := box (heap_calm (Ha2.out.trans hc2) Hn.out)
  clear hc2 hlt c0 c1 c2 c3 c4 c5 c6 c7 c8 c9 Hn2 Ha2
  have c0 := cell_of J2.out 0
  have c1 := cell_of J2.out 1
  have c2 := cell_of J2.out 2
  have c3 := cell_of J2.out 3
  have c4 := cell_of J2.out 4
  have c5 := cell_of J2.out 5
  have c6 := cell_of J2.out 6
  have c7 := cell_of J2.out 7
  have c8 := cell_of J2.out 8
  have c9 := cell_of J2.out 9
  have hlt := heap_lt J2.out
  cases gr with
  | true =>
    go_wp2_with fail
    go_ret
    exact ⟨rfl, C2.out⟩
  | false =>
    have Hsm := box (hsm rfl)
    clear hsm
    by_cases hg1 : 100 < g.size
    · go_wp2_with fail
      go_ret
      exact ⟨rfl, C2.out⟩
    by_cases hk1 : m.kind = 1
    · by_cases hr0 : m.retry = 0
      · obtain ⟨kd, q, du, rt, rf, bn, tp, tg, bd, ks⟩ := m
        simp only at hk1 hr0
        subst hk1 hr0
        go_wp2_with fail
        have HX0 := box (heap_new w2 (.cells (msgA ⟨1, q, du, 0, rf, bn, tp, tg, bd, ks⟩ (.slice ka ks.length kcap)) 33))
        have HC0 := box ((Calm.refl w2).alloc (.cells (msgA ⟨1, q, du, 0, rf, bn, tp, tg, bd, ks⟩ (.slice ka ks.length kcap)) 33))
        have HS0 := box (Hst.out.calm (C2.out.trans HC0.out))
        have Hinv0 := box (show Inv ⟨1, q, du, 0, rf, bn, tp, tg, bd, ks⟩ g c 0 ⟨1, q, du, 0, rf, bn, tp, tg, bd, ks⟩ c 0 from ⟨rfl, rfl, rfl, rfl, fun _ => ⟨rfl, rfl, rfl⟩, fun h => absurd rfl h, by constructor <;> simp [delayN]⟩)
        clear c0 c1 c2 c3 c4 c5 c6 c7 c8 c9 hlt
        go_loopw [8, 9, 10] (fun at_ dl kk wr => ∃ (j : Nat) (t d : Int) (x : MsgS) (xa : Option Addr) (xcap : Nat), j ≤ 4 ∧ at_ = .int .i64 t ∧ dl = .int .i64 d ∧ kk = .int .i64 j ∧ Inv ⟨1, q, du, 0, rf, bn, tp, tg, bd, ks⟩ g c j x t d ∧ Calm w2 wr ∧ wr.heap[w2.heap.size]? = some (.cells (msgA x (.slice xa x.keys.length xcap)) 33 (0, 0)) ∧ StrsAt wr (.slice xa x.keys.length xcap) x.keys) (fun _ _ kk _ => 5 - (intOf kk).toNat)
        case atStart => exact ⟨0, c, 0, _, ka, kcap, by omega, rfl, rfl, rfl, Hinv0.out, HC0.out, HX0.out, HS0.out⟩
        case round =>
          clear HX0 HC0 HS0 Hinv0
          obtain ⟨j, t, d, x, xa, xcap, hj, rfl, rfl, rfl, hinv, hcal, hx, hsx⟩ := hrel
          have HI := box hinv
          have HC := box hcal
          have HX := box hx
          have HSx := box hsx
          obtain ⟨i1, i2, i3, i4, i5, i6, it1, it2⟩ := id hinv
          have hks : x.keys = ks := i3
          have ht := it1
          have hd2 := (delay_two j hj).1
          have ht2 : t ≤ c + 30 := by omega
          have hagain := box (Again_any x (.slice xa x.keys.length xcap) (100 + (j : Int)) g t wr hsx (by rw [hks]; exact Hkz.out.1) (by have := Hsm.out.2.2.2.1; rw [hks]; simp only at this; omega) (by
            by_cases h0 : j = 0
            · exact .inl (i5 h0).1
            · exact .inr (i6 h0).1) (by omega))
          have hokj := box (fun (h0 : j ≠ 0) => show AgainOk x (100 + (j : Int)) g t from ⟨(i6 h0).2.1, (i6 h0).2.2.1, by unfold timeB; simp; omega, by unfold timeB; simp; omega⟩)
          clear hinv hcal hx hsx i1 i2 i3 i4 i5 i6 it1 it2
          obtain ⟨xk, xq, xd, xr, xf, xb, xt, xg, xbd, xks⟩ := x
          simp only at hks
          subst hks
          have c0 := cell_of HX.out 0
          have c1 := cell_of HX.out 1
          have c2 := cell_of HX.out 2
          have c3 := cell_of HX.out 3
          have c4 := cell_of HX.out 4
          have c5 := cell_of HX.out 5
          have c6 := cell_of HX.out 6
          have c7 := cell_of HX.out 7
          have c8 := cell_of HX.out 8
          have c9 := cell_of HX.out 9
          have hlt := heap_lt HX.out
          have hwj : IntKind.i64.wrap (100 + (j : Int)) = 100 + (j : Int) := IntWalk.i64_in _ (by omega)
          go_wp2_with fail
          refine hagain.out.mono ?_
          rintro e w4 ⟨v, cd, rfl, hc4, hno, hyes⟩
          by_cases hok : AgainOk ⟨xk, xq, xd, xr, xf, xb, xt, xg, xbd, xks⟩ (100 + (j : Int)) g t
          · obtain ⟨rfl, kv', rfl, hst', hfr'⟩ := hyes hok
            have Hfr' := box hfr'
            clear hfr'
            obtain ⟨ya, ycap, rfl, _⟩ := hst'.uni
            clear hyes hno hagain hokj c0 c1 c2 c3 c4 c5 c6 c7 c8 c9 hlt
            obtain ⟨i1, i2, i3, i4, i5, i6, it1, it2⟩ := HI.out
            simp only at i1 i2 i4 i5
            subst i1 i2 i4
            have Hst' := box hst'
            have Hc4 := box hc4
            have J4 := box (heap_calm hc4 HX.out)
            have M4 := box (heap_calm (HC.out.trans hc4) J2.out)
            clear hst' hc4 i3
            have Hok := box hok
            have m7 := cell_of M4.out 7
            have m8 := cell_of M4.out 8
            have m9 := cell_of M4.out 9
            have hltm := heap_lt M4.out
            by_cases h4 : j = 4
            · subst h4
              have he : againS ⟨xk, xq, xd, ((4 : Nat) : Int), xf, xb, xt, xg, xbd, xks⟩ (100 + ((4 : Nat) : Int)) g t = ⟨1, 0, 0, 4, 0, t, deadC ++ g, xg, xbd, xks⟩ := by
                unfold againS; rw [if_pos (by simp only; decide), own_yes _ _ Hok.out.1]; rfl
              rw [he]
              have C5 := box (C2.out.trans (HC.out.trans Hc4.out))
              clear i5 i6
              go_wp2_with fail
              go_ret
              exact ⟨rfl, C5.out.alloc _⟩
            · have h4' : j < 4 := by omega
              obtain ⟨dl, hdl⟩ : ∃ dl, dl = delayN ((j : Int) + 1) := ⟨_, rfl⟩
              have he : againS ⟨xk, xq, xd, (j : Int), xf, xb, xt, xg, xbd, xks⟩ (100 + (j : Int)) g t = ⟨2, 0, t + dl, (j : Int) + 1, 100 + (j : Int), t, retryC ++ g, xg, xbd, xks⟩ := by
                unfold againS; rw [if_neg (by simp only; omega), own_yes _ _ Hok.out.1, hdl]
              have hdd : d < dl ∧ dl ≤ 16 := by
                have h1 := delay_next j h4'
                rw [← hdl] at h1
                by_cases h0 : j = 0
                · rw [(i5 h0).2.2]; rw [if_pos h0] at h1; exact h1
                · rw [(i6 h0).2.2.2]; rw [if_neg h0] at h1; exact h1
              have hd0 : 0 ≤ d := by
                by_cases h0 : j = 0
                · rw [(i5 h0).2.2]; omega
                · rw [(i6 h0).2.2.2]; unfold delayN; exact Int.le_of_lt (Int.pow_pos (by omega))
              obtain ⟨hdd1, hdd2⟩ := hdd
              rw [he]
              have hw1 : IntKind.i64.wrap (t + dl - t) = t + dl - t := IntWalk.i64_in _ (by omega)
              have hw2 : IntKind.i64.wrap ((j : Int) + 1) = (j : Int) + 1 := IntWalk.i64_in _ (by omega)
              have hq4 : ((j : Int) == 4) = false := beq_eq_false_iff_ne.2 (by omega)
              have c0 := cell_of J4.out 0
              have c1 := cell_of J4.out 1
              have c2 := cell_of J4.out 2
              have c3 := cell_of J4.out 3
              have c4 := cell_of J4.out 4
              have c5 := cell_of J4.out 5
              have c6 := cell_of J4.out 6
              have c7 := cell_of J4.out 7
              have c8 := cell_of J4.out 8
              have c9 := cell_of J4.out 9
              have f0 := free_of J4.out 0
              have f1 := free_of J4.out 1
              have f2 := free_of J4.out 2
              have f3 := free_of J4.out 3
              have f4 := free_of J4.out 4
              have f5 := free_of J4.out 5
              have f6 := free_of J4.out 6
              have f7 := free_of J4.out 7
              have f8 := free_of J4.out 8
              have f9 := free_of J4.out 9
              have hlt := heap_lt J4.out
              clear i5 i6
              have Hdl := box hdl
              clear hdl he
              have H13 := box (heap_old _ (.cells (msgA ⟨2, 0, t + dl, (j : Int) + 1, 100 + (j : Int), t, retryC ++ g, xg, xbd, xks⟩ (.slice ya xks.length ycap)) 33) (heap_set (heap_set (put_msg J4.out rfl (.int .i64 2) (.int .i64 0) (.int .i64 (t + dl)) (.int .i64 ((j : Int) + 1)) (.int .i64 (100 + (j : Int))) (.int .i64 t) (.string (retryC ++ g)) (.string xg) (.string xbd) (.slice ya xks.length ycap)) 0 (.int .i64 3)) 5 (.int .i64 (t + dl))))
              have C13 := box ((calm_setCell (calm_setCell (calm_put_msg (HC.out.trans Hc4.out) (b := w2.heap.size) (Nat.le_refl _) (.int .i64 2) (.int .i64 0) (.int .i64 (t + dl)) (.int .i64 ((j : Int) + 1)) (.int .i64 (100 + (j : Int))) (.int .i64 t) (.string (retryC ++ g)) (.string xg) (.string xbd) (.slice ya xks.length ycap)) (p := ⟨w2.heap.size, 0, none⟩) (Nat.le_refl _) (.int .i64 3)) (p := ⟨w2.heap.size, 5, none⟩) (Nat.le_refl _) (.int .i64 (t + dl))).alloc (.cells (msgA ⟨2, 0, t + dl, (j : Int) + 1, 100 + (j : Int), t, retryC ++ g, xg, xbd, xks⟩ (.slice ya xks.length ycap)) 33))
              have S13 := box ((strs_keep Hst'.out (((keeps_put_msg (Keeps.refl (fun b => b = w2.heap.size) w4) (b := w2.heap.size) rfl (.int .i64 2) (.int .i64 0) (.int .i64 (t + dl)) (.int .i64 ((j : Int) + 1)) (.int .i64 (100 + (j : Int))) (.int .i64 t) (.string (retryC ++ g)) (.string xg) (.string xbd) (.slice ya xks.length ycap)).setCell (p := ⟨w2.heap.size, 0, none⟩) (.inl rfl) (.int .i64 3)).setCell (p := ⟨w2.heap.size, 5, none⟩) (.inl rfl) (.int .i64 (t + dl))) (fun a n c e hn hf => by have := Hfr'.out a n c e hn; have := heap_lt HX.out; omega)).calm ((Calm.refl _).alloc (.cells (msgA ⟨2, 0, t + dl, (j : Int) + 1, 100 + (j : Int), t, retryC ++ g, xg, xbd, xks⟩ (.slice ya xks.length ycap)) 33)))
              simp only [List.setIfInBounds_toArray, List.set_cons_zero, List.set_cons_succ] at H13
              have hdl4 := (delay_two j hj).2 h4'
              have hI13 := box (show Inv ⟨1, q, du, 0, rf, bn, tp, xg, xbd, xks⟩ g c (j + 1) ⟨3, 0, t + dl, (j : Int) + 1, 100 + (j : Int), t + dl, retryC ++ g, xg, xbd, xks⟩ (t + dl) dl from
                ⟨rfl, rfl, rfl, by simp, fun h => absurd h (by omega), fun _ => ⟨rfl, Hok.out.1, by
                  obtain ⟨_, ⟨_, ⟨a1, a2, a3, a4, a5, a6, a7, a8, a9, a10⟩, _⟩, _, _⟩ := Hok.out
                  refine ⟨?_, ⟨top_retry g Hok.out.1, by simp only; omega, by simp only; omega, by simp only; omega, by simp only; omega, a6, a7, a8, a9, a10⟩, fun h => by cases h⟩
                  unfold numsB
                  simp only [Bool.and_eq_true, numB_iff]
                  omega, by rw [Hdl.out]; simp⟩, by rw [hdl4]; have := Hdl.out; omega⟩)
              clear hdl4
              go_wp2_with fail
              go_roundw
              case rel => exact ⟨j + 1, t + dl, dl, _, ya, ycap, by omega, rfl, val_int (by omega), by go_num, hI13.out, C13.out, H13.out, S13.out⟩
              case measure => simp [intOf]; omega
          · obtain ⟨hcd', rfl⟩ := hno hok
            have hcd : cd ≠ 0 := by rw [hcd']; split <;> decide
            clear hcd'
            have hj0 : j = 0 := by
              by_cases h0 : j = 0
              · exact h0
              · exact absurd (hokj.out h0) hok
            subst hj0
            have hcd2 : (cd != 0) = true := by rw [bne, beq_eq_false_iff_ne.2 hcd]; rfl
            have hcd1 : (cd == 0) = false := beq_eq_false_iff_ne.2 hcd
            clear hyes hno hok
            have C4 := box (C2.out.trans (HC.out.trans hc4))
            clear hc4
            go_wp2_with fail
            go_ret
            exact ⟨rfl, C4.out.alloc _⟩
      · have hr0' : (m.retry == 0) = false := beq_eq_false_iff_ne.2 hr0
        have hr0'' : (m.retry != 0) = true := by rw [bne, hr0']; rfl
        have hk1' : (m.kind == 1) = true := by rw [hk1]; rfl
        have hk1'' : (m.kind != 1) = false := by rw [bne, hk1']; rfl
        go_wp2_with fail
        go_ret
        exact ⟨rfl, C2.out⟩
    · have hk1' : (m.kind == 1) = false := beq_eq_false_iff_ne.2 hk1
      have hk1'' : (m.kind != 1) = true := by rw [bne, hk1']; rfl
      go_wp2_with fail
      go_ret
      exact ⟨rfl, C2.out⟩

theorem own : ownKnob Try.prog.godebug = none := by kernel_rfl
theorem laidOut : laidOutB Try.prog = true := by kernel_rfl
set_option maxRecDepth 100000 in
set_option linter.unusedVariables false in
theorem lifted (os : Os) (started : os.Started) (H : Type) (enc : TypeId × Value → H) :
    ReturnsInHanded {} Try.checked os 5 .any (Rows.levelChainSpec.pre6 enc Try.prog Try.f5 Rows.levelChainRow.domain false) (Rows.levelChainSpec.post enc Try.prog Try.f5 false true false false) := by
  refine returnsInHanded_of_change_sized (C := Try.checked) own started (by kernel_rfl) Try.func5
    (ChangeSpec.witness6 (enc := enc) (C := Try.checked) false ⟨#[], #[.agg #[.int .i64 0, .int .i64 0, .int .i64 0, .int .i64 0, .int .i64 0, .int .i64 0, .string ⟨#[]⟩, .string ⟨#[]⟩, .string ⟨#[]⟩, .slice none 0 0], .string ⟨#[]⟩, .int .u32 0], []⟩ 8 (by kernel_rfl) (by kernel_rfl) (by kernel_rfl) (by kernel_rfl)) ?_
  intro W base args ds gs before hval0 hW hcnd hsz0 _
  have hsz : (DataW.weightsEach Try.prog (Try.f5.params.toList ++ []) (ds ++ gs)).all (· ≤ reachBytes) = true := hsz0
  clear hsz0
  have hval : ∀ (j : Nat) t v, Try.f5.params[j]? = some t → args[j]? = some v → Value.okWide Try.prog W .any base t v := hval0
  have hW' := hW
  obtain ⟨p, q, hA0, hV, rfl, hfz, hnd⟩ := hW
  have hA : DataW.TrodAll enc Try.prog W 0 (fun _ => true) true Try.f5.params.toList args.toList ds p := hA0
  rw [Try.params5] at hA hval hsz
  obtain ⟨v0, vs0, d0, ds0, p0, q0, hargs, rfl, rfl, h0, r0'⟩ := trodAll_cons hA
  obtain ⟨v1, vs1, d1, ds1, p1, q1, rfl, rfl, rfl, h1, r1'⟩ := trodAll_cons r0'
  obtain ⟨v2, vs2, d2, ds2, p2, q2, rfl, rfl, rfl, h2, r2'⟩ := trodAll_cons r1'
  obtain ⟨rfl, rfl, rfl⟩ := trodAll_nil r2'
  obtain rfl : args = #[v0, v1, v2] := by cases args; simp_all
  obtain ⟨rfl, rfl⟩ := trodVars_none hV
  clear hA0 hval0
  have wt0 := fun n hn => (by simpa using List.all_eq_true.1 hsz n (DataW.weights_mem_each (j := 0) rfl rfl n hn) : n ≤ reachBytes)
  have wt1 := fun n hn => (by simpa using List.all_eq_true.1 hsz n (DataW.weights_mem_each (j := 1) rfl rfl n hn) : n ≤ reachBytes)
  have wt2 := fun n hn => (by simpa using List.all_eq_true.1 hsz n (DataW.weights_mem_each (j := 2) rfl rfl n hn) : n ≤ reachBytes)
  have hlt : ∀ x ∈ p0 ++ (p1 ++ (p2 ++ [])), x.block < W.heap.size := fun x hx => by have := hW'.lt x (by simpa using hx); simpa using this
  obtain ⟨y0, e0, r0⟩ := msg_arg (struct_shape Try.underlying33 (hval 0 33 v0 rfl rfl)) ((opens_msg).arg h0)
  subst e0
  obtain ⟨s1, e1, _, _, z1⟩ := Go.ChangeMaps.open_string Try.underlying9 (hval 1 9 v1 rfl rfl) h1
  subst e1
  obtain ⟨a2, e2, _, _, w2⟩ := open_int Try.underlying48 (hval 2 48 v2 rfl rfl) h2
  subst e2
  refine (walk W y0 r0 s1 z1 a2 w2).mono fun e W' ⟨he, hg⟩ => ?_
  subst he
  refine ⟨_, rfl, _, _, _, [] ++ [], p0 ++ (p1 ++ (p2 ++ [])), [], hW', ?_, ?_, ?_, hg.frame _, fun h => by cases h⟩
  · exact trodAll_mk1 (shut_bool Try.underlying4 true)
  · exact trodAll_cons_mk (Below.trod laidOut (by kernel_rfl) (of_decide_eq_true (by kernel_rfl)) h0 hg (fun x hx => hlt x (by simp [hx]))) (trodAll_cons_mk (Below.trod laidOut (by kernel_rfl) (of_decide_eq_true (by kernel_rfl)) h1 hg (fun x hx => hlt x (by simp [hx]))) (trodAll_cons_mk (Below.trod laidOut (by kernel_rfl) (of_decide_eq_true (by kernel_rfl)) h2 hg (fun x hx => hlt x (by simp [hx]))) (trodAll_mk0)))
  · exact rfl

theorem over : Rows.levelChainRow.holds Try.pinned (OpenSpec.ofChange Rows.levelChainSpec) :=
  OpenClaim.holds_of_wide 5 Try.f5 rfl rfl rfl rfl rfl rfl rfl ⟨rfl, rfl, rfl, rfl, rfl⟩ rfl rfl rfl rfl rfl (by kernel_rfl) Try.func5 (by kernel_rfl)
    (of_decide_eq_true (by kernel_rfl)) (by unfold Func.isWrapper; first | (rw [if_pos (by decide +kernel)]; kernel_rfl) | (rw [if_neg (by decide +kernel)]; exact ⟨rfl, rfl⟩))
    (fun os started H enc _ => lifted os started H enc)

theorem proved : Rows.LevelChainSaid := over
#print axioms proved
end Go.Proofs.Ytofffmnkoelifaa.lchain
