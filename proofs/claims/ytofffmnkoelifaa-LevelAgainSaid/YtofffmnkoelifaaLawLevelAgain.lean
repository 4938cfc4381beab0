/- LevelAgain: of any message that failed what comes is what the document says, or why nothing does; it is a right record, due no earlier than its delay; behind the last level it is given up. No condition. -/
import Derived.Test.YtofffmnkoelifaaRows
import Derived.WalkKit
import Derived.ProofKit
import Derived.OpenShut
import Derived.Handy
import Derived.Deep.LoopGhost
import Derived.Lib.Hide
import Derived.Lib.Strings
import Derived.SizedLaws
import Derived.Deep.Slices
import Derived.Shelf.SlIter.Nil
import Derived.Ground.GgzProg
import Derived.Shelf.SortM.Plain
import Derived.Shelf.SortM.SortNone
import Derived.Ground.SlgmProg
import Derived.Test.YtofffmnkoelifaaProg
import Derived.Shelf.Strings.Builder1
import Derived.Shelf.Strings.Builder2
import Derived.Shelf.Small.Bits
import Derived.Shelf.Small.Wraps
import Derived.Shelf.Strings.BuilderF
import Derived.Shelf.Strings.BuilderK
import Derived.Shelf.Strings.Builder2Cap
import Derived.Shelf.Strconv.Itoa0
import Derived.Shelf.Sort.Plain
import Derived.Shelf.GgClosure.StringsIndexFunc
import Derived.Ground.GgwProg
import Derived.Shelf.GgClosure.StringsIndexFuncTop
import Derived.Shelf.GgClosure.StringsRunes
import Derived.Shelf.Strings.Prefix
import Derived.Shelf.Bits.Mul64
import Derived.Shelf.Strings.Repeat
import Derived.Shelf.Strings.BuilderCap
import Derived.Shelf.Slices.Equal
import Derived.Ground.Names2Prog
import Derived.Shelf.Slices.Clone
import Derived.Shelf.Slices.CompactS
import Derived.Shelf.Slices.SearchI
import Derived.Shelf.Slices.Cells
import Derived.Shelf.Slices.In.SortNone
import Derived.Shelf.Slices.Empties2
import Derived.Ground.SlgnProg
import Derived.Shelf.SlicesE.Equal
import Derived.Shelf.SlicesE.Compact
import Derived.Shelf.SlicesE.Clone
import Derived.Ground.SlgfProg
import Derived.Shelf.SlicesE.IndexFunc
import Derived.Shelf.SlicesE.DeleteFunc
import Derived.RangeFuncBox
import Derived.RangeFuncLeaves
import Derived.Shelf.Abstract
import Derived.OwnWalkIn
import Derived.TacticsInMore
import Derived.LoopNIn
import Derived.LoopIn
import Derived.Maps.AppendAt
import Derived.Lib.SlicesCompact
import Derived.Deep.QuietTactic
import Derived.BigQuiet
import Derived.Laws.ResultCell
import Derived.Laws.Rows
import Derived.Deep.RegionHeld3
import Derived.Test.YtofffmnkoelifaaPk10
namespace Go.Proofs.Ytofffmnkoelifaa.lagain
open Go.ChangeShapes Go.WideShapes Go.ChangeAt Go.RowKit Go.Shelf
open Go.Proofs.Ytofffmnkoelifaa.nm Go.Proofs.Ytofffmnkoelifaa.vs Go.Proofs.Ytofffmnkoelifaa.rc

theorem awake_any (W : World) : Calls Try.prog 15 #[] W fun e w' => e = .returned (.bool true) ∧ W = w' := by
  have hslot : ∀ w, Calls Try.prog 39 #[.int .i64 17] w fun e w' => e = .returned (.int .i64 1) ∧ w = w' := fun w => by
    go_enter Try.func39, Try.ntmps39
    go_wp2_with fail
    go_ret
    exact ⟨rfl, rfl⟩
  go_enter Try.func15, Try.ntmps15
  go_wp2_with fail
  refine (Delay_any 3 _ (by decide) (by decide)).mono ?_
  rw [show delayN 3 = 8 by decide]
  rintro e w1 ⟨rfl, rfl⟩
  go_wp2_with fail
  refine (hslot _).mono ?_
  rintro e w1 ⟨rfl, rfl⟩
  go_wp2_with fail
  go_ret
  exact ⟨rfl, rfl⟩
theorem small_any (n : Int) (w : World) : Calls Try.prog 18 #[.int .i64 n] w fun e w' => e = .returned (.bool (timeB n)) ∧ w = w' := by
  obtain ⟨r, hr⟩ : ∃ r, timeB n = r := ⟨_, rfl⟩
  rw [hr]
  have Hr := box hr
  clear hr
  go_enter Try.func18, Try.ntmps18
  go_wp2_with fail
  all_goals
    go_ret
    exact ⟨ret_bool (by rw [← Hr.out, Bool.eq_iff_iff]; simp [timeB] <;> omega), rfl⟩
theorem own_yes (h s : ByteArray) (g : groupB s = true) : ownS h s = h ++ s := by unfold ownS; rw [g]; rfl
theorem has_app (h s : ByteArray) : hasS (h ++ s) h = true := by
  unfold hasS Lib.hasPrefix; rw [append_toList]; simp
theorem cut_app (h s : ByteArray) : cutS (h ++ s) h = s := by
  apply ba_ext
  unfold cutS Lib.trimPrefix
  have := has_app h s
  unfold hasS at this
  rw [if_pos this, append_toList]
  simp
theorem top_retry (s : ByteArray) (g : groupB s = true) : topicB (retryC ++ s) = true := by
  unfold topicB ofOk hitS
  rw [has_app, cut_app, g]; rfl
theorem top_dead (s : ByteArray) (g : groupB s = true) : topicB (deadC ++ s) = true := by
  unfold topicB ofOk hitS
  rw [has_app deadC, cut_app deadC, g]; simp
theorem keep_cell {W W' : World} (hb : Calm W W') {p : Addr} {v : Value} (h : W.cell? p = some v) : W'.cell? p = some v := (hb.cell (p := p) (World.block_lt_of_cell? W p h)).trans h
/-- Nothing is like nothing. -/
theorem same_zero (w : World) : Calls Try.prog 20 #[.agg zeroA, .agg zeroA] w fun e w' => e = .returned (.bool true) ∧ Calm w w' := by
  have h := rSame_any ⟨0, 0, 0, 0, 0, 0, ⟨#[]⟩, ⟨#[]⟩, ⟨#[]⟩, []⟩ ⟨0, 0, 0, 0, 0, 0, ⟨#[]⟩, ⟨#[]⟩, ⟨#[]⟩, []⟩ (.slice none 0 0) (.slice none 0 0) w (.inl ⟨rfl, none, 0, rfl⟩) (.inl ⟨rfl, none, 0, rfl⟩) (by decide) (by decide)
  rwa [decide_eq_true rfl] at h
set_option maxRecDepth 100000 in
set_option maxHeartbeats 16000000 in
theorem walk (W : World) (y : MsgS × Value) (r : MsgIn W y) (g : ByteArray) (hg : g.size ≤ maxLen) (p : Int × Int) (hp : PairR .i64 W (Value.agg #[.int .i64 p.1, .int .i64 p.2]).cells.toList p) :
    Calls Try.prog 4 #[.agg (msgA y.1 y.2), .string g, .agg #[.int .i64 p.1, .int .i64 p.2]] W fun e W' => e = .returned (.bool true) ∧ Calm W W' := by
  obtain ⟨m, kv⟩ := y
  obtain ⟨hr, z1, z2, z3, zk, zr⟩ := r
  obtain ⟨id, now⟩ := p
  simp only at hr z1 z2 z3 zk zr hp
  have hid : -9223372036854775808 ≤ id ∧ id ≤ 9223372036854775807 := hp.2.1
  obtain ⟨hst, hkz⟩ := RowsAt.strs hr
  obtain ⟨ka, kcap, rfl, _⟩ := hst.uni
  have Hst := box hst
  have Hkz := box hkz
  have Hz := box (show m.body.size ≤ maxLen ∧ m.topic.size ≤ maxLen ∧ m.tag.size ≤ maxLen ∧ m.keys.length ≤ maxLen from ⟨z3, z1, z2, hkz.2⟩)
  have Hid := box hid
  have hgz := box hg
  obtain ⟨W1, hW1⟩ : ∃ W1, (W.alloc (.cells (msgA m (.slice ka m.keys.length kcap)) 33)).alloc (.cells #[.int .i64 id, .int .i64 now] 38) = W1 := ⟨_, rfl⟩
  have Hn := box (show W1.heap[W.heap.size]? = some (.cells (msgA m (.slice ka m.keys.length kcap)) 33 (0, 0)) by rw [← hW1]; exact heap_old _ _ (heap_new W _))
  have Hp := box (show W1.heap[W.heap.size + 1]? = some (.cells #[.int .i64 id, .int .i64 now] 38 (0, 0)) by rw [← hW1]; have := heap_new (W.alloc (.cells (msgA m (.slice ka m.keys.length kcap)) 33)) (.cells #[.int .i64 id, .int .i64 now] 38); rwa [World.size_alloc] at this)
  have Ha := box (show Calm W W1 by rw [← hW1]; exact ((Calm.refl W).alloc _).alloc _)
  clear hr hst hkz z1 z2 z3 hg hp hid
  go_enter Try.func4, Try.ntmps4
  go_wp2_with fail
  clear hW1
  refine (awake_any _).mono ?_
  rintro e w1 ⟨rfl, rfl⟩
  have p0 := cell_of Hp.out 0
  have p1 := cell_of Hp.out 1
  have hltp := heap_lt Hp.out
  have c0 := cell_of Hn.out 0
  have c1 := cell_of Hn.out 1
  have c2 := cell_of Hn.out 2
  have c3 := cell_of Hn.out 3
  have c4 := cell_of Hn.out 4
  have c5 := cell_of Hn.out 5
  have c6 := cell_of Hn.out 6
  have c7 := cell_of Hn.out 7
  have c8 := cell_of Hn.out 8
  have c9 := cell_of Hn.out 9
  have hlt := heap_lt Hn.out
  go_wp2_with (first | go_quiet (fail) | fail)
  go_wp2_with fail
  refine (Great_any W1.heap.size m (.slice ka m.keys.length kcap) ((W1.drewN nq).alloc (.cells (msgA m (.slice ka m.keys.length kcap)) 33)) (heap_new (W1.drewN nq) _) (Hst.out.calm ((Ha.out.drewN _).alloc _)) Hkz.out.1 Hz.out).mono ?_
  rintro e w2 ⟨gr, rfl, hc2, hsm⟩
  have C2 := box (((Ha.out.drewN _).alloc _).trans hc2)
  have J2 := box (heap_calm hc2 (heap_old _ _ Hn.out))
  clear hc2 p0 p1 hltp hlt c0 c1 c2 c3 c4 c5 c6 c7 c8 c9
  cases gr with
  | true =>
    go_wp2_with fail
    go_ret
    exact ⟨rfl, C2.out⟩
  | false =>
    have Hsm := box (hsm rfl)
    clear hsm
    by_cases hg1 : 100 < g.size
    · go_wp2_with fail
      go_ret
      exact ⟨rfl, C2.out⟩
    have hag := box (Again_all m (.slice ka m.keys.length kcap) id g now w2 (Hst.out.calm C2.out) Hkz.out.1 (by have := Hsm.out.2.2.2.1; omega) (by have := Hsm.out.1; omega) Hid.out)
    have hgr := box (fun W => rGroup_any g W hgz.out)
    have c0 := cell_of J2.out 0
    have c1 := cell_of J2.out 1
    have c2 := cell_of J2.out 2
    have c3 := cell_of J2.out 3
    have c4 := cell_of J2.out 4
    have c5 := cell_of J2.out 5
    have c6 := cell_of J2.out 6
    have c7 := cell_of J2.out 7
    have c8 := cell_of J2.out 8
    have c9 := cell_of J2.out 9
    have hlt := heap_lt J2.out
    go_wp2_with fail
    refine hag.out.mono ?_
    rintro e w3 ⟨v, c, rfl, hc3, hno, hyes⟩
    have C3 := box (C2.out.trans hc3)
    have J3 := box (heap_calm hc3 J2.out)
    clear hc3 hlt c0 c1 c2 c3 c4 c5 c6 c7 c8 c9 hag
    by_cases hok : AgainP m id g now
    · obtain ⟨rfl, kv', rfl, hst'⟩ := hyes hok
      clear hyes hno
      obtain ⟨hgB, hR, hk13, htid, htn⟩ := hok
      obtain ⟨kd, q, du, rt, rf, bn, tp, tg, bd, ks⟩ := m
      have hcar := box ((RightP.of3 (m := ⟨kd, q, du, rt, rf, bn, tp, tg, bd, ks⟩) (by simp only at hk13 ⊢; omega)).1 hR).2.1
      simp only at hk13
      obtain ⟨hrt0, hrt4⟩ : 0 ≤ rt ∧ rt ≤ 4 := ⟨hcar.out.2.2.2.1, hcar.out.2.2.2.2.1⟩
      obtain ⟨va, vcap, rfl, _⟩ := hst'.uni
      have Hst' := box hst'
      have HgB := box hgB
      have Htid := box htid
      have Htn := box htn
      have HR := box hR
      rw [hgB] at hgr
      simp only at hst' 
      clear hst' hgB htid htn hR
      by_cases h4 : 4 ≤ rt
      · obtain rfl : rt = 4 := by omega
        have he : againS ⟨kd, q, du, 4, rf, bn, tp, tg, bd, ks⟩ id g now = ⟨1, 0, 0, 4, 0, now, deadC ++ g, tg, bd, ks⟩ := by
          unfold againS; rw [if_pos (by simp), own_yes _ _ HgB.out]
        rw [he]
        obtain ⟨W4, hW4⟩ : ∃ W4, w3.alloc (.cells (msgA ⟨1, 0, 0, 4, 0, now, deadC ++ g, tg, bd, ks⟩ (.slice va ks.length vcap)) 33) = W4 := ⟨_, rfl⟩
        have X4 := box (show W4.heap[w3.heap.size]? = some (.cells (msgA ⟨1, 0, 0, 4, 0, now, deadC ++ g, tg, bd, ks⟩ (.slice va ks.length vcap)) 33 (0, 0)) by rw [← hW4]; exact heap_new w3 _)
        have A4 := box (show Calm w3 W4 by rw [← hW4]; exact (Calm.refl w3).alloc _)
        have C4 := box (C3.out.trans A4.out)
        have J4 := box (heap_calm A4.out J3.out)
        have hrr := box (rRight_any ⟨kd, q, du, 4, rf, bn, tp, tg, bd, ks⟩ (.slice ka ks.length kcap) W4 (Hst.out.calm C4.out) Hkz.out.1 ⟨Hz.out.2.1, Hz.out.2.2.1, Hz.out.1⟩)
        rw [decide_eq_true HR.out] at hrr
        have c0 := cell_of J4.out 0
        have c1 := cell_of J4.out 1
        have c2 := cell_of J4.out 2
        have c3 := cell_of J4.out 3
        have c4 := cell_of J4.out 4
        have c5 := cell_of J4.out 5
        have c6 := cell_of J4.out 6
        have c7 := cell_of J4.out 7
        have c8 := cell_of J4.out 8
        have c9 := cell_of J4.out 9
        have hlt := heap_lt J4.out
        go_wp2_with fail
        clear hW4 he
        refine (hgr.out _).mono ?_
        rintro e w5 ⟨rfl, rfl⟩
        go_wp2_with fail
        refine hrr.out.mono ?_
        rintro e w5 ⟨rfl, hc5⟩
        have X5 := box (heap_calm hc5 X4.out)
        have J5 := box (heap_calm hc5 J4.out)
        have A5 := box (A4.out.trans hc5)
        have C5 := box (C4.out.trans hc5)
        clear hc5 c0 c1 c2 c3 c4 c5 c6 c7 c8 c9 hlt hrr
        have c0 := cell_of J5.out 0
        have c1 := cell_of J5.out 1
        have c2 := cell_of J5.out 2
        have c3 := cell_of J5.out 3
        have c4 := cell_of J5.out 4
        have c5 := cell_of J5.out 5
        have c6 := cell_of J5.out 6
        have c7 := cell_of J5.out 7
        have c8 := cell_of J5.out 8
        have c9 := cell_of J5.out 9
        have hlt := heap_lt J5.out
        have z0 := cell_of X5.out 0
        have z1 := cell_of X5.out 1
        have z2 := cell_of X5.out 2
        have z3 := cell_of X5.out 3
        have z4 := cell_of X5.out 4
        have z5 := cell_of X5.out 5
        have z6 := cell_of X5.out 6
        have z7 := cell_of X5.out 7
        have z8 := cell_of X5.out 8
        have z9 := cell_of X5.out 9
        have hltx := heap_lt X5.out
        have HTZ := box (show (deadC ++ g).size ≤ maxLen by rw [ByteArray.size_append]; unfold maxLen; have : deadC.size = 6 := rfl; omega)
        have HRX := box (show RightP ⟨1, 0, 0, 4, 0, now, deadC ++ g, tg, bd, ks⟩ from by
          refine ⟨?_, .inl ⟨rfl, ⟨top_dead g HgB.out, by simp, by simp, by simp, by simp, hcar.out.2.2.2.2.2.1, hcar.out.2.2.2.2.2.2.1, hcar.out.2.2.2.2.2.2.2.1, hcar.out.2.2.2.2.2.2.2.2.1, hcar.out.2.2.2.2.2.2.2.2.2⟩, rfl, rfl⟩⟩
          have := Htn.out
          unfold timeB at this
          simp only [Bool.and_eq_true, decide_eq_true_eq] at this
          unfold numsB
          simp only [Bool.and_eq_true, numB_iff]
          omega)
        rcases hk13 with rfl | rfl
        · go_wp2_with fail
          refine (small_any id _).mono ?_
          rw [Htid.out]
          rintro e w6 ⟨rfl, rfl⟩
          go_wp2_with fail
          refine (small_any now _).mono ?_
          rw [Htn.out]
          rintro e w6 ⟨rfl, rfl⟩
          go_wp2_with fail
          refine wp_region_held_drew (S := fun w' => w'.cell? ⟨w3.heap.size, 0, none⟩ = some (.int .i64 1) ∧ w'.cell? ⟨w3.heap.size, 1, none⟩ = some (.int .i64 0) ∧ w'.cell? ⟨w3.heap.size, 2, none⟩ = some (.int .i64 0) ∧ w'.cell? ⟨w3.heap.size, 3, none⟩ = some (.int .i64 4) ∧ w'.cell? ⟨w3.heap.size, 4, none⟩ = some (.int .i64 0) ∧ w'.cell? ⟨w3.heap.size, 5, none⟩ = some (.int .i64 now) ∧ w'.cell? ⟨w3.heap.size, 6, none⟩ = some (.string (deadC ++ g)) ∧ w'.cell? ⟨w3.heap.size, 7, none⟩ = some (.string tg) ∧ w'.cell? ⟨w3.heap.size, 8, none⟩ = some (.string bd) ∧ w'.cell? ⟨w3.heap.size, 9, none⟩ = some (.slice va ks.length vcap) ∧ w'.cell? ⟨w5.heap.size, 0, none⟩ = some (.int .i64 1) ∧ w'.cell? ⟨w5.heap.size, 1, none⟩ = some (.int .i64 0) ∧ w'.cell? ⟨w5.heap.size, 2, none⟩ = some (.int .i64 0) ∧ w'.cell? ⟨w5.heap.size, 3, none⟩ = some (.int .i64 4) ∧ w'.cell? ⟨w5.heap.size, 4, none⟩ = some (.int .i64 0) ∧ w'.cell? ⟨w5.heap.size, 5, none⟩ = some (.int .i64 now) ∧ w'.cell? ⟨w5.heap.size, 6, none⟩ = some (.string (deadC ++ g)) ∧ w'.cell? ⟨w5.heap.size, 7, none⟩ = some (.string tg) ∧ w'.cell? ⟨w5.heap.size, 8, none⟩ = some (.string bd) ∧ w'.cell? ⟨w5.heap.size, 9, none⟩ = some (.slice ka ks.length kcap)) (by kernel_rfl) (by go_keep) (fun hHeld => ?_)
          ((refine' wpAnyH_take (i := 0) (v := _) rfl (by kernel_rfl) (by kernel_rfl) (by kernel_rfl) (fun _ _ _ h => h) (Or.inl ⟨by rfl, ?hy1⟩) (by assumption) ?rest1; (case hy1 => (intro w hSw; (try dsimp only at hSw); go_simp <;> with_reducible rfl)); simp only [List.getElem_toArray, List.getElem_cons_succ, List.getElem_cons_zero, Act.put, List.setIfInBounds_toArray, List.set_cons_zero, List.set_cons_succ]); (refine' wpAnyH_take (i := 1) (v := _) rfl (by kernel_rfl) (by kernel_rfl) (by kernel_rfl) (fun _ _ _ h => h) (Or.inl ⟨by rfl, ?hy2⟩) (by assumption) ?rest2; (case hy2 => (intro w hSw; (try dsimp only at hSw); go_simp <;> with_reducible rfl)); simp only [List.getElem_toArray, List.getElem_cons_succ, List.getElem_cons_zero, Act.put, List.setIfInBounds_toArray, List.set_cons_zero, List.set_cons_succ]); (refine' wpAnyH_take (i := 2) (v := _) rfl (by kernel_rfl) (by kernel_rfl) (by kernel_rfl) (fun _ _ _ h => h) (Or.inl ⟨by rfl, ?hy3⟩) (by assumption) ?rest3; (case hy3 => (intro w hSw; (try dsimp only at hSw); go_simp <;> with_reducible rfl)); simp only [List.getElem_toArray, List.getElem_cons_succ, List.getElem_cons_zero, Act.put, List.setIfInBounds_toArray, List.set_cons_zero, List.set_cons_succ]); (refine' wpAnyH_take (i := 3) (v := _) rfl (by kernel_rfl) (by kernel_rfl) (by kernel_rfl) (fun _ _ _ h => h) (Or.inl ⟨by rfl, ?hy4⟩) (by assumption) ?rest4; (case hy4 => (intro w hSw; (try dsimp only at hSw); go_simp <;> with_reducible rfl)); simp only [List.getElem_toArray, List.getElem_cons_succ, List.getElem_cons_zero, Act.put, List.setIfInBounds_toArray, List.set_cons_zero, List.set_cons_succ]); (refine' wpAnyH_take (i := 4) (v := _) rfl (by kernel_rfl) (by kernel_rfl) (by kernel_rfl) (fun _ _ _ h => h) (Or.inl ⟨by rfl, ?hy5⟩) (by assumption) ?rest5; (case hy5 => (intro w hSw; (try dsimp only at hSw); go_simp <;> with_reducible rfl)); simp only [List.getElem_toArray, List.getElem_cons_succ, List.getElem_cons_zero, Act.put, List.setIfInBounds_toArray, List.set_cons_zero, List.set_cons_succ]))
          refine wpAnyH_ready (rs := [5]) (by kernel_rfl) (by simp) ?_
          refine AllReadyH.cons rfl (fun K hK => ?_) AllReadyH.nil
          rw [if_pos (by rfl)]
          go_simp
          have hsame := rSame_any ⟨1, 0, 0, 4, 0, now, deadC ++ g, tg, bd, ks⟩ ⟨1, 0, 0, 4, 0, now, deadC ++ g, tg, bd, ks⟩ (.slice va ks.length vcap) (.slice ka ks.length kcap)
          rw [decide_eq_true rfl] at hsame
          refine (hsame _ (Hst'.out.calm (A5.out.trans (by (repeat' (first | (with_reducible exact Calm.refl _) | (with_reducible assumption) | (with_reducible refine Calm.drew ?_) | (with_reducible refine Calm.alloc ?_ _) | (with_reducible refine Calm.trans ?_ (by assumption))))))) (Hst.out.calm (C5.out.trans (by (repeat' (first | (with_reducible exact Calm.refl _) | (with_reducible assumption) | (with_reducible refine Calm.drew ?_) | (with_reducible refine Calm.alloc ?_ _) | (with_reducible refine Calm.trans ?_ (by assumption))))))) (by have := Hsm.out.2.2.2.1; simp only at this ⊢; omega) (by have := Hsm.out.2.2.2.1; simp only at this ⊢; omega)).mono ?_
          rintro e w7 ⟨rfl, hb⟩
          go_wp2_with fail
          have C7 := box (Calm.trans (show Calm w5 _ by (repeat' (first | (with_reducible exact Calm.refl _) | (with_reducible assumption) | (with_reducible refine Calm.drew ?_) | (with_reducible refine Calm.alloc ?_ _) | (with_reducible refine Calm.trans ?_ (by assumption))))) hb)
          obtain ⟨g0, g1, g2, g3, g4, g5, g6, g7, g8, g9, g10, g11, g12, g13, g14, g15, g16, g17, g18, g19⟩ := hHeld
          refine hK.out _ _ ⟨keep_cell hb g0, keep_cell hb g1, keep_cell hb g2, keep_cell hb g3, keep_cell hb g4, keep_cell hb g5, keep_cell hb g6, keep_cell hb g7, keep_cell hb g8, keep_cell hb g9, keep_cell hb g10, keep_cell hb g11, keep_cell hb g12, keep_cell hb g13, keep_cell hb g14, keep_cell hb g15, keep_cell hb g16, keep_cell hb g17, keep_cell hb g18, keep_cell hb g19⟩ (fun hHeld => ?_)
          clear hK K hb g0 g1 g2 g3 g4 g5 g6 g7 g8 g9 g10 g11 g12 g13 g14 g15 g16 g17 g18 g19 hsame
          try simp only [List.getElem_toArray, List.getElem_cons_succ, List.getElem_cons_zero, Act.put, List.setIfInBounds_toArray, List.set_cons_zero, List.set_cons_succ]
          ((refine' wpAnyH_take (i := 6) (v := _) rfl (by kernel_rfl) (by kernel_rfl) (by kernel_rfl) (fun _ _ _ h => h) (Or.inl ⟨by rfl, ?hy6⟩) (by assumption) ?rest6; (case hy6 => (intro w hSw; (try dsimp only at hSw); go_simp <;> with_reducible rfl)); simp only [List.getElem_toArray, List.getElem_cons_succ, List.getElem_cons_zero, Act.put, List.setIfInBounds_toArray, List.set_cons_zero, List.set_cons_succ]); (refine' wpAnyH_take (i := 7) (v := _) rfl (by kernel_rfl) (by kernel_rfl) (by kernel_rfl) (fun _ _ _ h => h) (Or.inl ⟨by rfl, ?hy7⟩) (by assumption) ?rest7; (case hy7 => (intro w hSw; (try dsimp only at hSw); go_simp <;> with_reducible rfl)); simp only [List.getElem_toArray, List.getElem_cons_succ, List.getElem_cons_zero, Act.put, List.setIfInBounds_toArray, List.set_cons_zero, List.set_cons_succ]); (refine' wpAnyH_take (i := 8) (v := _) rfl (by kernel_rfl) (by kernel_rfl) (by kernel_rfl) (fun _ _ _ h => h) (Or.inl ⟨by rfl, ?hy8⟩) (by assumption) ?rest8; (case hy8 => (intro w hSw; (try dsimp only at hSw); go_simp <;> with_reducible rfl)); simp only [List.getElem_toArray, List.getElem_cons_succ, List.getElem_cons_zero, Act.put, List.setIfInBounds_toArray, List.set_cons_zero, List.set_cons_succ]))
          refine wpAnyH_ready (rs := [9]) (by kernel_rfl) (by simp) ?_
          refine AllReadyH.cons rfl (fun K hK => ?_) AllReadyH.nil
          rw [if_pos (by rfl)]
          go_simp
          have hright := rRight_any ⟨1, 0, 0, 4, 0, now, deadC ++ g, tg, bd, ks⟩ (.slice va ks.length vcap) w7 (Hst'.out.calm (A5.out.trans C7.out)) Hkz.out.1 ⟨by have := HTZ.out; exact this, Hz.out.2.2.1, Hz.out.1⟩
          rw [decide_eq_true HRX.out] at hright
          refine hright.mono ?_
          rintro e w8 ⟨rfl, hb⟩
          go_wp2_with fail
          have C8 := box (C7.out.trans hb)
          obtain ⟨g0, g1, g2, g3, g4, g5, g6, g7, g8, g9, g10, g11, g12, g13, g14, g15, g16, g17, g18, g19⟩ := hHeld
          refine hK.out _ _ ⟨keep_cell hb g0, keep_cell hb g1, keep_cell hb g2, keep_cell hb g3, keep_cell hb g4, keep_cell hb g5, keep_cell hb g6, keep_cell hb g7, keep_cell hb g8, keep_cell hb g9, keep_cell hb g10, keep_cell hb g11, keep_cell hb g12, keep_cell hb g13, keep_cell hb g14, keep_cell hb g15, keep_cell hb g16, keep_cell hb g17, keep_cell hb g18, keep_cell hb g19⟩ (fun hHeld => ?_)
          clear hK K hb g0 g1 g2 g3 g4 g5 g6 g7 g8 g9 g10 g11 g12 g13 g14 g15 g16 g17 g18 g19 hright
          try simp only [List.getElem_toArray, List.getElem_cons_succ, List.getElem_cons_zero, Act.put, List.setIfInBounds_toArray, List.set_cons_zero, List.set_cons_succ]
          ((refine' wpAnyH_take (i := 10) (v := _) rfl (by kernel_rfl) (by kernel_rfl) (by kernel_rfl) (fun _ _ _ h => h) (Or.inl ⟨by rfl, ?hy9⟩) (by assumption) ?rest9; (case hy9 => (intro w hSw; (try dsimp only at hSw); go_simp <;> with_reducible rfl)); simp only [List.getElem_toArray, List.getElem_cons_succ, List.getElem_cons_zero, Act.put, List.setIfInBounds_toArray, List.set_cons_zero, List.set_cons_succ]); (refine' wpAnyH_take (i := 11) (v := _) rfl (by kernel_rfl) (by kernel_rfl) (by kernel_rfl) (fun _ _ _ h => h) (Or.inl ⟨by rfl, ?hy10⟩) (by assumption) ?rest10; (case hy10 => (intro w hSw; (try dsimp only at hSw); go_simp <;> with_reducible rfl)); simp only [List.getElem_toArray, List.getElem_cons_succ, List.getElem_cons_zero, Act.put, List.setIfInBounds_toArray, List.set_cons_zero, List.set_cons_succ]); (refine' wpAnyH_take (i := 12) (v := _) rfl (by kernel_rfl) (by kernel_rfl) (by kernel_rfl) (fun _ _ _ h => h) (Or.inl ⟨by rfl, ?hy11⟩) (by assumption) ?rest11; (case hy11 => (intro w hSw; (try dsimp only at hSw); go_simp <;> with_reducible rfl)); simp only [List.getElem_toArray, List.getElem_cons_succ, List.getElem_cons_zero, Act.put, List.setIfInBounds_toArray, List.set_cons_zero, List.set_cons_succ]); (refine' wpAnyH_take (i := 13) (v := _) rfl (by kernel_rfl) (by kernel_rfl) (by kernel_rfl) (fun _ _ _ h => h) (Or.inl ⟨by rfl, ?hy12⟩) (by assumption) ?rest12; (case hy12 => (intro w hSw; (try dsimp only at hSw); go_simp <;> with_reducible rfl)); simp only [List.getElem_toArray, List.getElem_cons_succ, List.getElem_cons_zero, Act.put, List.setIfInBounds_toArray, List.set_cons_zero, List.set_cons_succ]); (refine' wpAnyH_take (i := 14) (v := _) rfl (by kernel_rfl) (by kernel_rfl) (by kernel_rfl) (fun _ _ _ h => h) (Or.inl ⟨by rfl, ?hy13⟩) (by assumption) ?rest13; (case hy13 => (intro w hSw; (try dsimp only at hSw); go_simp <;> with_reducible rfl)); simp only [List.getElem_toArray, List.getElem_cons_succ, List.getElem_cons_zero, Act.put, List.setIfInBounds_toArray, List.set_cons_zero, List.set_cons_succ]); (refine' wpAnyH_take (i := 15) (v := _) rfl (by kernel_rfl) (by kernel_rfl) (by kernel_rfl) (fun _ _ _ h => h) (Or.inl ⟨by rfl, ?hy14⟩) (by assumption) ?rest14; (case hy14 => (intro w hSw; (try dsimp only at hSw); go_simp <;> with_reducible rfl)); simp only [List.getElem_toArray, List.getElem_cons_succ, List.getElem_cons_zero, Act.put, List.setIfInBounds_toArray, List.set_cons_zero, List.set_cons_succ]))
          ((refine' wpAnyH_take (i := 16) (v := _) rfl (by kernel_rfl) (by kernel_rfl) (by kernel_rfl) (fun _ _ _ h => h) (Or.inr ⟨by rfl, rfl⟩) (by assumption) ?rest15; simp only [List.getElem_toArray, List.getElem_cons_succ, List.getElem_cons_zero, Act.put, List.setIfInBounds_toArray, List.set_cons_zero, List.set_cons_succ]); (refine' wpAnyH_take (i := 17) (v := _) rfl (by kernel_rfl) (by kernel_rfl) (by kernel_rfl) (fun _ _ _ h => h) (Or.inr ⟨by rfl, rfl⟩) (by assumption) ?rest16; simp only [List.getElem_toArray, List.getElem_cons_succ, List.getElem_cons_zero, Act.put, List.setIfInBounds_toArray, List.set_cons_zero, List.set_cons_succ]); (refine' wpAnyH_take (i := 18) (v := _) rfl (by kernel_rfl) (by kernel_rfl) (by kernel_rfl) (fun _ _ _ h => h) (Or.inr ⟨by rfl, rfl⟩) (by assumption) ?rest17; simp only [List.getElem_toArray, List.getElem_cons_succ, List.getElem_cons_zero, Act.put, List.setIfInBounds_toArray, List.set_cons_zero, List.set_cons_succ]); (refine' wpAnyH_take (i := 19) (v := _) rfl (by kernel_rfl) (by kernel_rfl) (by kernel_rfl) (fun _ _ _ h => h) (Or.inr ⟨by rfl, rfl⟩) (by assumption) ?rest18; simp only [List.getElem_toArray, List.getElem_cons_succ, List.getElem_cons_zero, Act.put, List.setIfInBounds_toArray, List.set_cons_zero, List.set_cons_succ]); (refine' wpAnyH_take (i := 20) (v := _) rfl (by kernel_rfl) (by kernel_rfl) (by kernel_rfl) (fun _ _ _ h => h) (Or.inr ⟨by rfl, rfl⟩) (by assumption) ?rest19; simp only [List.getElem_toArray, List.getElem_cons_succ, List.getElem_cons_zero, Act.put, List.setIfInBounds_toArray, List.set_cons_zero, List.set_cons_succ]); (refine' wpAnyH_take (i := 21) (v := _) rfl (by kernel_rfl) (by kernel_rfl) (by kernel_rfl) (fun _ _ _ h => h) (Or.inr ⟨by rfl, rfl⟩) (by assumption) ?rest20; simp only [List.getElem_toArray, List.getElem_cons_succ, List.getElem_cons_zero, Act.put, List.setIfInBounds_toArray, List.set_cons_zero, List.set_cons_succ]); (refine' wpAnyH_take (i := 22) (v := _) rfl (by kernel_rfl) (by kernel_rfl) (by kernel_rfl) (fun _ _ _ h => h) (Or.inr ⟨by rfl, rfl⟩) (by assumption) ?rest21; simp only [List.getElem_toArray, List.getElem_cons_succ, List.getElem_cons_zero, Act.put, List.setIfInBounds_toArray, List.set_cons_zero, List.set_cons_succ]); (refine' wpAnyH_take (i := 23) (v := _) rfl (by kernel_rfl) (by kernel_rfl) (by kernel_rfl) (fun _ _ _ h => h) (Or.inr ⟨by rfl, rfl⟩) (by assumption) ?rest22; simp only [List.getElem_toArray, List.getElem_cons_succ, List.getElem_cons_zero, Act.put, List.setIfInBounds_toArray, List.set_cons_zero, List.set_cons_succ]))
          ((refine' wpAnyH_take (i := 24) (v := _) rfl (by kernel_rfl) (by kernel_rfl) (by kernel_rfl) (fun _ _ _ h => h) (Or.inl ⟨by rfl, ?hy23⟩) (by assumption) ?rest23; (case hy23 => (intro w hSw; (try dsimp only at hSw); go_simp <;> with_reducible rfl)); simp only [List.getElem_toArray, List.getElem_cons_succ, List.getElem_cons_zero, Act.put, List.setIfInBounds_toArray, List.set_cons_zero, List.set_cons_succ]); (refine' wpAnyH_take (i := 25) (v := _) rfl (by kernel_rfl) (by kernel_rfl) (by kernel_rfl) (fun _ _ _ h => h) (Or.inl ⟨by rfl, ?hy24⟩) (by assumption) ?rest24; (case hy24 => (intro w hSw; (try dsimp only at hSw); go_simp <;> with_reducible rfl)); simp only [List.getElem_toArray, List.getElem_cons_succ, List.getElem_cons_zero, Act.put, List.setIfInBounds_toArray, List.set_cons_zero, List.set_cons_succ]); (refine' wpAnyH_take (i := 26) (v := _) rfl (by kernel_rfl) (by kernel_rfl) (by kernel_rfl) (fun _ _ _ h => h) (Or.inl ⟨by rfl, ?hy25⟩) (by assumption) ?rest25; (case hy25 => (intro w hSw; (try dsimp only at hSw); go_simp <;> with_reducible rfl)); simp only [List.getElem_toArray, List.getElem_cons_succ, List.getElem_cons_zero, Act.put, List.setIfInBounds_toArray, List.set_cons_zero, List.set_cons_succ]))
          refine wpAnyH_done (by kernel_rfl) ?_ _
          go_wp2_with fail
          go_ret
          exact ⟨rfl, C5.out.trans C8.out⟩
        · go_wp2_with fail
          refine (small_any id _).mono ?_
          rw [Htid.out]
          rintro e w6 ⟨rfl, rfl⟩
          go_wp2_with fail
          refine (small_any now _).mono ?_
          rw [Htn.out]
          rintro e w6 ⟨rfl, rfl⟩
          go_wp2_with fail
          refine wp_region_held_drew (S := fun w' => w'.cell? ⟨w3.heap.size, 0, none⟩ = some (.int .i64 1) ∧ w'.cell? ⟨w3.heap.size, 1, none⟩ = some (.int .i64 0) ∧ w'.cell? ⟨w3.heap.size, 2, none⟩ = some (.int .i64 0) ∧ w'.cell? ⟨w3.heap.size, 3, none⟩ = some (.int .i64 4) ∧ w'.cell? ⟨w3.heap.size, 4, none⟩ = some (.int .i64 0) ∧ w'.cell? ⟨w3.heap.size, 5, none⟩ = some (.int .i64 now) ∧ w'.cell? ⟨w3.heap.size, 6, none⟩ = some (.string (deadC ++ g)) ∧ w'.cell? ⟨w3.heap.size, 7, none⟩ = some (.string tg) ∧ w'.cell? ⟨w3.heap.size, 8, none⟩ = some (.string bd) ∧ w'.cell? ⟨w3.heap.size, 9, none⟩ = some (.slice va ks.length vcap) ∧ w'.cell? ⟨w5.heap.size, 0, none⟩ = some (.int .i64 1) ∧ w'.cell? ⟨w5.heap.size, 1, none⟩ = some (.int .i64 0) ∧ w'.cell? ⟨w5.heap.size, 2, none⟩ = some (.int .i64 0) ∧ w'.cell? ⟨w5.heap.size, 3, none⟩ = some (.int .i64 4) ∧ w'.cell? ⟨w5.heap.size, 4, none⟩ = some (.int .i64 0) ∧ w'.cell? ⟨w5.heap.size, 5, none⟩ = some (.int .i64 now) ∧ w'.cell? ⟨w5.heap.size, 6, none⟩ = some (.string (deadC ++ g)) ∧ w'.cell? ⟨w5.heap.size, 7, none⟩ = some (.string tg) ∧ w'.cell? ⟨w5.heap.size, 8, none⟩ = some (.string bd) ∧ w'.cell? ⟨w5.heap.size, 9, none⟩ = some (.slice ka ks.length kcap)) (by kernel_rfl) (by go_keep) (fun hHeld => ?_)
          ((refine' wpAnyH_take (i := 0) (v := _) rfl (by kernel_rfl) (by kernel_rfl) (by kernel_rfl) (fun _ _ _ h => h) (Or.inl ⟨by rfl, ?hy26⟩) (by assumption) ?rest26; (case hy26 => (intro w hSw; (try dsimp only at hSw); go_simp <;> with_reducible rfl)); simp only [List.getElem_toArray, List.getElem_cons_succ, List.getElem_cons_zero, Act.put, List.setIfInBounds_toArray, List.set_cons_zero, List.set_cons_succ]); (refine' wpAnyH_take (i := 1) (v := _) rfl (by kernel_rfl) (by kernel_rfl) (by kernel_rfl) (fun _ _ _ h => h) (Or.inl ⟨by rfl, ?hy27⟩) (by assumption) ?rest27; (case hy27 => (intro w hSw; (try dsimp only at hSw); go_simp <;> with_reducible rfl)); simp only [List.getElem_toArray, List.getElem_cons_succ, List.getElem_cons_zero, Act.put, List.setIfInBounds_toArray, List.set_cons_zero, List.set_cons_succ]); (refine' wpAnyH_take (i := 2) (v := _) rfl (by kernel_rfl) (by kernel_rfl) (by kernel_rfl) (fun _ _ _ h => h) (Or.inl ⟨by rfl, ?hy28⟩) (by assumption) ?rest28; (case hy28 => (intro w hSw; (try dsimp only at hSw); go_simp <;> with_reducible rfl)); simp only [List.getElem_toArray, List.getElem_cons_succ, List.getElem_cons_zero, Act.put, List.setIfInBounds_toArray, List.set_cons_zero, List.set_cons_succ]); (refine' wpAnyH_take (i := 3) (v := _) rfl (by kernel_rfl) (by kernel_rfl) (by kernel_rfl) (fun _ _ _ h => h) (Or.inl ⟨by rfl, ?hy29⟩) (by assumption) ?rest29; (case hy29 => (intro w hSw; (try dsimp only at hSw); go_simp <;> with_reducible rfl)); simp only [List.getElem_toArray, List.getElem_cons_succ, List.getElem_cons_zero, Act.put, List.setIfInBounds_toArray, List.set_cons_zero, List.set_cons_succ]); (refine' wpAnyH_take (i := 4) (v := _) rfl (by kernel_rfl) (by kernel_rfl) (by kernel_rfl) (fun _ _ _ h => h) (Or.inl ⟨by rfl, ?hy30⟩) (by assumption) ?rest30; (case hy30 => (intro w hSw; (try dsimp only at hSw); go_simp <;> with_reducible rfl)); simp only [List.getElem_toArray, List.getElem_cons_succ, List.getElem_cons_zero, Act.put, List.setIfInBounds_toArray, List.set_cons_zero, List.set_cons_succ]))
          refine wpAnyH_ready (rs := [5]) (by kernel_rfl) (by simp) ?_
          refine AllReadyH.cons rfl (fun K hK => ?_) AllReadyH.nil
          rw [if_pos (by rfl)]
          go_simp
          have hsame := rSame_any ⟨1, 0, 0, 4, 0, now, deadC ++ g, tg, bd, ks⟩ ⟨1, 0, 0, 4, 0, now, deadC ++ g, tg, bd, ks⟩ (.slice va ks.length vcap) (.slice ka ks.length kcap)
          rw [decide_eq_true rfl] at hsame
          refine (hsame _ (Hst'.out.calm (A5.out.trans (by (repeat' (first | (with_reducible exact Calm.refl _) | (with_reducible assumption) | (with_reducible refine Calm.drew ?_) | (with_reducible refine Calm.alloc ?_ _) | (with_reducible refine Calm.trans ?_ (by assumption))))))) (Hst.out.calm (C5.out.trans (by (repeat' (first | (with_reducible exact Calm.refl _) | (with_reducible assumption) | (with_reducible refine Calm.drew ?_) | (with_reducible refine Calm.alloc ?_ _) | (with_reducible refine Calm.trans ?_ (by assumption))))))) (by have := Hsm.out.2.2.2.1; simp only at this ⊢; omega) (by have := Hsm.out.2.2.2.1; simp only at this ⊢; omega)).mono ?_
          rintro e w7 ⟨rfl, hb⟩
          go_wp2_with fail
          have C7 := box (Calm.trans (show Calm w5 _ by (repeat' (first | (with_reducible exact Calm.refl _) | (with_reducible assumption) | (with_reducible refine Calm.drew ?_) | (with_reducible refine Calm.alloc ?_ _) | (with_reducible refine Calm.trans ?_ (by assumption))))) hb)
          obtain ⟨g0, g1, g2, g3, g4, g5, g6, g7, g8, g9, g10, g11, g12, g13, g14, g15, g16, g17, g18, g19⟩ := hHeld
          refine hK.out _ _ ⟨keep_cell hb g0, keep_cell hb g1, keep_cell hb g2, keep_cell hb g3, keep_cell hb g4, keep_cell hb g5, keep_cell hb g6, keep_cell hb g7, keep_cell hb g8, keep_cell hb g9, keep_cell hb g10, keep_cell hb g11, keep_cell hb g12, keep_cell hb g13, keep_cell hb g14, keep_cell hb g15, keep_cell hb g16, keep_cell hb g17, keep_cell hb g18, keep_cell hb g19⟩ (fun hHeld => ?_)
          clear hK K hb g0 g1 g2 g3 g4 g5 g6 g7 g8 g9 g10 g11 g12 g13 g14 g15 g16 g17 g18 g19 hsame
          try simp only [List.getElem_toArray, List.getElem_cons_succ, List.getElem_cons_zero, Act.put, List.setIfInBounds_toArray, List.set_cons_zero, List.set_cons_succ]
          ((refine' wpAnyH_take (i := 6) (v := _) rfl (by kernel_rfl) (by kernel_rfl) (by kernel_rfl) (fun _ _ _ h => h) (Or.inl ⟨by rfl, ?hy31⟩) (by assumption) ?rest31; (case hy31 => (intro w hSw; (try dsimp only at hSw); go_simp <;> with_reducible rfl)); simp only [List.getElem_toArray, List.getElem_cons_succ, List.getElem_cons_zero, Act.put, List.setIfInBounds_toArray, List.set_cons_zero, List.set_cons_succ]); (refine' wpAnyH_take (i := 7) (v := _) rfl (by kernel_rfl) (by kernel_rfl) (by kernel_rfl) (fun _ _ _ h => h) (Or.inl ⟨by rfl, ?hy32⟩) (by assumption) ?rest32; (case hy32 => (intro w hSw; (try dsimp only at hSw); go_simp <;> with_reducible rfl)); simp only [List.getElem_toArray, List.getElem_cons_succ, List.getElem_cons_zero, Act.put, List.setIfInBounds_toArray, List.set_cons_zero, List.set_cons_succ]); (refine' wpAnyH_take (i := 8) (v := _) rfl (by kernel_rfl) (by kernel_rfl) (by kernel_rfl) (fun _ _ _ h => h) (Or.inl ⟨by rfl, ?hy33⟩) (by assumption) ?rest33; (case hy33 => (intro w hSw; (try dsimp only at hSw); go_simp <;> with_reducible rfl)); simp only [List.getElem_toArray, List.getElem_cons_succ, List.getElem_cons_zero, Act.put, List.setIfInBounds_toArray, List.set_cons_zero, List.set_cons_succ]))
          refine wpAnyH_ready (rs := [9]) (by kernel_rfl) (by simp) ?_
          refine AllReadyH.cons rfl (fun K hK => ?_) AllReadyH.nil
          rw [if_pos (by rfl)]
          go_simp
          have hright := rRight_any ⟨1, 0, 0, 4, 0, now, deadC ++ g, tg, bd, ks⟩ (.slice va ks.length vcap) w7 (Hst'.out.calm (A5.out.trans C7.out)) Hkz.out.1 ⟨by have := HTZ.out; exact this, Hz.out.2.2.1, Hz.out.1⟩
          rw [decide_eq_true HRX.out] at hright
          refine hright.mono ?_
          rintro e w8 ⟨rfl, hb⟩
          go_wp2_with fail
          have C8 := box (C7.out.trans hb)
          obtain ⟨g0, g1, g2, g3, g4, g5, g6, g7, g8, g9, g10, g11, g12, g13, g14, g15, g16, g17, g18, g19⟩ := hHeld
          refine hK.out _ _ ⟨keep_cell hb g0, keep_cell hb g1, keep_cell hb g2, keep_cell hb g3, keep_cell hb g4, keep_cell hb g5, keep_cell hb g6, keep_cell hb g7, keep_cell hb g8, keep_cell hb g9, keep_cell hb g10, keep_cell hb g11, keep_cell hb g12, keep_cell hb g13, keep_cell hb g14, keep_cell hb g15, keep_cell hb g16, keep_cell hb g17, keep_cell hb g18, keep_cell hb g19⟩ (fun hHeld => ?_)
          clear hK K hb g0 g1 g2 g3 g4 g5 g6 g7 g8 g9 g10 g11 g12 g13 g14 g15 g16 g17 g18 g19 hright
          try simp only [List.getElem_toArray, List.getElem_cons_succ, List.getElem_cons_zero, Act.put, List.setIfInBounds_toArray, List.set_cons_zero, List.set_cons_succ]
          ((refine' wpAnyH_take (i := 10) (v := _) rfl (by kernel_rfl) (by kernel_rfl) (by kernel_rfl) (fun _ _ _ h => h) (Or.inl ⟨by rfl, ?hy34⟩) (by assumption) ?rest34; (case hy34 => (intro w hSw; (try dsimp only at hSw); go_simp <;> with_reducible rfl)); simp only [List.getElem_toArray, List.getElem_cons_succ, List.getElem_cons_zero, Act.put, List.setIfInBounds_toArray, List.set_cons_zero, List.set_cons_succ]); (refine' wpAnyH_take (i := 11) (v := _) rfl (by kernel_rfl) (by kernel_rfl) (by kernel_rfl) (fun _ _ _ h => h) (Or.inl ⟨by rfl, ?hy35⟩) (by assumption) ?rest35; (case hy35 => (intro w hSw; (try dsimp only at hSw); go_simp <;> with_reducible rfl)); simp only [List.getElem_toArray, List.getElem_cons_succ, List.getElem_cons_zero, Act.put, List.setIfInBounds_toArray, List.set_cons_zero, List.set_cons_succ]); (refine' wpAnyH_take (i := 12) (v := _) rfl (by kernel_rfl) (by kernel_rfl) (by kernel_rfl) (fun _ _ _ h => h) (Or.inl ⟨by rfl, ?hy36⟩) (by assumption) ?rest36; (case hy36 => (intro w hSw; (try dsimp only at hSw); go_simp <;> with_reducible rfl)); simp only [List.getElem_toArray, List.getElem_cons_succ, List.getElem_cons_zero, Act.put, List.setIfInBounds_toArray, List.set_cons_zero, List.set_cons_succ]); (refine' wpAnyH_take (i := 13) (v := _) rfl (by kernel_rfl) (by kernel_rfl) (by kernel_rfl) (fun _ _ _ h => h) (Or.inl ⟨by rfl, ?hy37⟩) (by assumption) ?rest37; (case hy37 => (intro w hSw; (try dsimp only at hSw); go_simp <;> with_reducible rfl)); simp only [List.getElem_toArray, List.getElem_cons_succ, List.getElem_cons_zero, Act.put, List.setIfInBounds_toArray, List.set_cons_zero, List.set_cons_succ]); (refine' wpAnyH_take (i := 14) (v := _) rfl (by kernel_rfl) (by kernel_rfl) (by kernel_rfl) (fun _ _ _ h => h) (Or.inl ⟨by rfl, ?hy38⟩) (by assumption) ?rest38; (case hy38 => (intro w hSw; (try dsimp only at hSw); go_simp <;> with_reducible rfl)); simp only [List.getElem_toArray, List.getElem_cons_succ, List.getElem_cons_zero, Act.put, List.setIfInBounds_toArray, List.set_cons_zero, List.set_cons_succ]); (refine' wpAnyH_take (i := 15) (v := _) rfl (by kernel_rfl) (by kernel_rfl) (by kernel_rfl) (fun _ _ _ h => h) (Or.inl ⟨by rfl, ?hy39⟩) (by assumption) ?rest39; (case hy39 => (intro w hSw; (try dsimp only at hSw); go_simp <;> with_reducible rfl)); simp only [List.getElem_toArray, List.getElem_cons_succ, List.getElem_cons_zero, Act.put, List.setIfInBounds_toArray, List.set_cons_zero, List.set_cons_succ]))
          ((refine' wpAnyH_take (i := 16) (v := _) rfl (by kernel_rfl) (by kernel_rfl) (by kernel_rfl) (fun _ _ _ h => h) (Or.inr ⟨by rfl, rfl⟩) (by assumption) ?rest40; simp only [List.getElem_toArray, List.getElem_cons_succ, List.getElem_cons_zero, Act.put, List.setIfInBounds_toArray, List.set_cons_zero, List.set_cons_succ]); (refine' wpAnyH_take (i := 17) (v := _) rfl (by kernel_rfl) (by kernel_rfl) (by kernel_rfl) (fun _ _ _ h => h) (Or.inr ⟨by rfl, rfl⟩) (by assumption) ?rest41; simp only [List.getElem_toArray, List.getElem_cons_succ, List.getElem_cons_zero, Act.put, List.setIfInBounds_toArray, List.set_cons_zero, List.set_cons_succ]); (refine' wpAnyH_take (i := 18) (v := _) rfl (by kernel_rfl) (by kernel_rfl) (by kernel_rfl) (fun _ _ _ h => h) (Or.inr ⟨by rfl, rfl⟩) (by assumption) ?rest42; simp only [List.getElem_toArray, List.getElem_cons_succ, List.getElem_cons_zero, Act.put, List.setIfInBounds_toArray, List.set_cons_zero, List.set_cons_succ]); (refine' wpAnyH_take (i := 19) (v := _) rfl (by kernel_rfl) (by kernel_rfl) (by kernel_rfl) (fun _ _ _ h => h) (Or.inr ⟨by rfl, rfl⟩) (by assumption) ?rest43; simp only [List.getElem_toArray, List.getElem_cons_succ, List.getElem_cons_zero, Act.put, List.setIfInBounds_toArray, List.set_cons_zero, List.set_cons_succ]); (refine' wpAnyH_take (i := 20) (v := _) rfl (by kernel_rfl) (by kernel_rfl) (by kernel_rfl) (fun _ _ _ h => h) (Or.inr ⟨by rfl, rfl⟩) (by assumption) ?rest44; simp only [List.getElem_toArray, List.getElem_cons_succ, List.getElem_cons_zero, Act.put, List.setIfInBounds_toArray, List.set_cons_zero, List.set_cons_succ]); (refine' wpAnyH_take (i := 21) (v := _) rfl (by kernel_rfl) (by kernel_rfl) (by kernel_rfl) (fun _ _ _ h => h) (Or.inr ⟨by rfl, rfl⟩) (by assumption) ?rest45; simp only [List.getElem_toArray, List.getElem_cons_succ, List.getElem_cons_zero, Act.put, List.setIfInBounds_toArray, List.set_cons_zero, List.set_cons_succ]); (refine' wpAnyH_take (i := 22) (v := _) rfl (by kernel_rfl) (by kernel_rfl) (by kernel_rfl) (fun _ _ _ h => h) (Or.inr ⟨by rfl, rfl⟩) (by assumption) ?rest46; simp only [List.getElem_toArray, List.getElem_cons_succ, List.getElem_cons_zero, Act.put, List.setIfInBounds_toArray, List.set_cons_zero, List.set_cons_succ]); (refine' wpAnyH_take (i := 23) (v := _) rfl (by kernel_rfl) (by kernel_rfl) (by kernel_rfl) (fun _ _ _ h => h) (Or.inr ⟨by rfl, rfl⟩) (by assumption) ?rest47; simp only [List.getElem_toArray, List.getElem_cons_succ, List.getElem_cons_zero, Act.put, List.setIfInBounds_toArray, List.set_cons_zero, List.set_cons_succ]))
          ((refine' wpAnyH_take (i := 24) (v := _) rfl (by kernel_rfl) (by kernel_rfl) (by kernel_rfl) (fun _ _ _ h => h) (Or.inl ⟨by rfl, ?hy48⟩) (by assumption) ?rest48; (case hy48 => (intro w hSw; (try dsimp only at hSw); go_simp <;> with_reducible rfl)); simp only [List.getElem_toArray, List.getElem_cons_succ, List.getElem_cons_zero, Act.put, List.setIfInBounds_toArray, List.set_cons_zero, List.set_cons_succ]); (refine' wpAnyH_take (i := 25) (v := _) rfl (by kernel_rfl) (by kernel_rfl) (by kernel_rfl) (fun _ _ _ h => h) (Or.inl ⟨by rfl, ?hy49⟩) (by assumption) ?rest49; (case hy49 => (intro w hSw; (try dsimp only at hSw); go_simp <;> with_reducible rfl)); simp only [List.getElem_toArray, List.getElem_cons_succ, List.getElem_cons_zero, Act.put, List.setIfInBounds_toArray, List.set_cons_zero, List.set_cons_succ]); (refine' wpAnyH_take (i := 26) (v := _) rfl (by kernel_rfl) (by kernel_rfl) (by kernel_rfl) (fun _ _ _ h => h) (Or.inl ⟨by rfl, ?hy50⟩) (by assumption) ?rest50; (case hy50 => (intro w hSw; (try dsimp only at hSw); go_simp <;> with_reducible rfl)); simp only [List.getElem_toArray, List.getElem_cons_succ, List.getElem_cons_zero, Act.put, List.setIfInBounds_toArray, List.set_cons_zero, List.set_cons_succ]))
          refine wpAnyH_done (by kernel_rfl) ?_ _
          go_wp2_with fail
          go_ret
          exact ⟨rfl, C5.out.trans C8.out⟩
      · obtain ⟨n, rfl⟩ : ∃ n : Nat, rt = n := ⟨rt.toNat, by omega⟩
        have hn4 : n < 4 := by omega
        obtain ⟨dl, hdl⟩ : ∃ dl, dl = delayN ((n : Int) + 1) := ⟨_, rfl⟩
        have he : againS ⟨kd, q, du, (n : Int), rf, bn, tp, tg, bd, ks⟩ id g now = ⟨2, 0, now + dl, (n : Int) + 1, id, now, retryC ++ g, tg, bd, ks⟩ := by
          unfold againS; rw [if_neg (by simp only; omega), own_yes _ _ HgB.out, hdl]
        have hdel := box (fun w => Delay_any ((n : Int) + 1) w (by omega) (by omega))
        have hdlb := delay_le ((n : Int) + 1) (by omega) (by omega)
        rw [← hdl] at hdel hdlb
        obtain ⟨hdl1, hdl2⟩ := hdlb
        have hlit : ∀ h : n < ([Value.int .i64 2, .int .i64 4, .int .i64 8, .int .i64 16] : List Value).length, ([Value.int .i64 2, .int .i64 4, .int .i64 8, .int .i64 16] : List Value)[n]'h = .int .i64 dl := by
          rw [hdl]
          have : n = 0 ∨ n = 1 ∨ n = 2 ∨ n = 3 := by omega
          rcases this with rfl | rfl | rfl | rfl <;> (intro h; rfl)
        have hnow : 0 ≤ now ∧ now ≤ 1099511626776 := by have := Htn.out; unfold timeB at this; simpa using this
        have hidb : 0 ≤ id ∧ id ≤ 1099511626776 := by have := Htid.out; unfold timeB at this; simpa using this
        have hw1 : IntKind.i64.wrap (now + dl) = now + dl := IntWalk.i64_in _ (by omega)
        have hw2 : IntKind.i64.wrap ((n : Int) + 1) = (n : Int) + 1 := IntWalk.i64_in _ (by omega)
        have hw3 : IntKind.i64.wrap (now + dl - now) = dl := by rw [IntWalk.i64_in _ (by omega)]; omega
        have HTZ := box (show (retryC ++ g).size ≤ maxLen by rw [ByteArray.size_append]; unfold maxLen; have : retryC.size = 7 := rfl; omega)
        have HRX := box (show RightP ⟨2, 0, now + dl, (n : Int) + 1, id, now, retryC ++ g, tg, bd, ks⟩ from by
          refine ⟨?_, .inr (.inl ⟨.inl rfl, ⟨top_retry g HgB.out, by simp, by simp, by simp only; omega, by simp only; omega, hcar.out.2.2.2.2.2.1, hcar.out.2.2.2.2.2.2.1, hcar.out.2.2.2.2.2.2.2.1, hcar.out.2.2.2.2.2.2.2.2.1, hcar.out.2.2.2.2.2.2.2.2.2⟩⟩)⟩
          unfold numsB
          simp only [Bool.and_eq_true, numB_iff]
          omega)
        clear hnow hidb hdl
        rw [he]
        obtain ⟨W4, hW4⟩ : ∃ W4, w3.alloc (.cells (msgA ⟨2, 0, now + dl, (n : Int) + 1, id, now, retryC ++ g, tg, bd, ks⟩ (.slice va ks.length vcap)) 33) = W4 := ⟨_, rfl⟩
        have X4 := box (show W4.heap[w3.heap.size]? = some (.cells (msgA ⟨2, 0, now + dl, (n : Int) + 1, id, now, retryC ++ g, tg, bd, ks⟩ (.slice va ks.length vcap)) 33 (0, 0)) by rw [← hW4]; exact heap_new w3 _)
        have A4 := box (show Calm w3 W4 by rw [← hW4]; exact (Calm.refl w3).alloc _)
        have C4 := box (C3.out.trans A4.out)
        have J4 := box (heap_calm A4.out J3.out)
        have hrr := box (rRight_any ⟨kd, q, du, (n : Int), rf, bn, tp, tg, bd, ks⟩ (.slice ka ks.length kcap) W4 (Hst.out.calm C4.out) Hkz.out.1 ⟨Hz.out.2.1, Hz.out.2.2.1, Hz.out.1⟩)
        rw [decide_eq_true HR.out] at hrr
        have c0 := cell_of J4.out 0
        have c1 := cell_of J4.out 1
        have c2 := cell_of J4.out 2
        have c3 := cell_of J4.out 3
        have c4 := cell_of J4.out 4
        have c5 := cell_of J4.out 5
        have c6 := cell_of J4.out 6
        have c7 := cell_of J4.out 7
        have c8 := cell_of J4.out 8
        have c9 := cell_of J4.out 9
        have hlt := heap_lt J4.out
        go_wp2_with fail
        clear hW4 he
        refine (hgr.out _).mono ?_
        rintro e w5 ⟨rfl, rfl⟩
        go_wp2_with fail
        refine hrr.out.mono ?_
        rintro e w5 ⟨rfl, hc5⟩
        have X5 := box (heap_calm hc5 X4.out)
        have J5 := box (heap_calm hc5 J4.out)
        have A5 := box (A4.out.trans hc5)
        have C5 := box (C4.out.trans hc5)
        clear hc5 c0 c1 c2 c3 c4 c5 c6 c7 c8 c9 hlt hrr
        have c0 := cell_of J5.out 0
        have c1 := cell_of J5.out 1
        have c2 := cell_of J5.out 2
        have c3 := cell_of J5.out 3
        have c4 := cell_of J5.out 4
        have c5 := cell_of J5.out 5
        have c6 := cell_of J5.out 6
        have c7 := cell_of J5.out 7
        have c8 := cell_of J5.out 8
        have c9 := cell_of J5.out 9
        have hlt := heap_lt J5.out
        have z0 := cell_of X5.out 0
        have z1 := cell_of X5.out 1
        have z2 := cell_of X5.out 2
        have z3 := cell_of X5.out 3
        have z4 := cell_of X5.out 4
        have z5 := cell_of X5.out 5
        have z6 := cell_of X5.out 6
        have z7 := cell_of X5.out 7
        have z8 := cell_of X5.out 8
        have z9 := cell_of X5.out 9
        have hltx := heap_lt X5.out
        rcases hk13 with rfl | rfl
        · go_wp2_with fail
          refine (small_any id _).mono ?_
          rw [Htid.out]
          rintro e w6 ⟨rfl, rfl⟩
          go_wp2_with fail
          refine (small_any now _).mono ?_
          rw [Htn.out]
          rintro e w6 ⟨rfl, rfl⟩
          go_wp2_with fail
          refine wp_region_held_drew (S := fun w' => w'.cell? ⟨w3.heap.size, 0, none⟩ = some (.int .i64 2) ∧ w'.cell? ⟨w3.heap.size, 1, none⟩ = some (.int .i64 0) ∧ w'.cell? ⟨w3.heap.size, 2, none⟩ = some (.int .i64 (now + dl)) ∧ w'.cell? ⟨w3.heap.size, 3, none⟩ = some (.int .i64 ((n : Int) + 1)) ∧ w'.cell? ⟨w3.heap.size, 4, none⟩ = some (.int .i64 id) ∧ w'.cell? ⟨w3.heap.size, 5, none⟩ = some (.int .i64 now) ∧ w'.cell? ⟨w3.heap.size, 6, none⟩ = some (.string (retryC ++ g)) ∧ w'.cell? ⟨w3.heap.size, 7, none⟩ = some (.string tg) ∧ w'.cell? ⟨w3.heap.size, 8, none⟩ = some (.string bd) ∧ w'.cell? ⟨w3.heap.size, 9, none⟩ = some (.slice va ks.length vcap) ∧ w'.cell? ⟨w5.heap.size, 0, none⟩ = some (.int .i64 2) ∧ w'.cell? ⟨w5.heap.size, 1, none⟩ = some (.int .i64 0) ∧ w'.cell? ⟨w5.heap.size, 2, none⟩ = some (.int .i64 (now + dl)) ∧ w'.cell? ⟨w5.heap.size, 3, none⟩ = some (.int .i64 ((n : Int) + 1)) ∧ w'.cell? ⟨w5.heap.size, 4, none⟩ = some (.int .i64 id) ∧ w'.cell? ⟨w5.heap.size, 5, none⟩ = some (.int .i64 now) ∧ w'.cell? ⟨w5.heap.size, 6, none⟩ = some (.string (retryC ++ g)) ∧ w'.cell? ⟨w5.heap.size, 7, none⟩ = some (.string tg) ∧ w'.cell? ⟨w5.heap.size, 8, none⟩ = some (.string bd) ∧ w'.cell? ⟨w5.heap.size, 9, none⟩ = some (.slice ka ks.length kcap)) (by kernel_rfl) (by go_keep) (fun hHeld => ?_)
          ((refine' wpAnyH_take (i := 0) (v := _) rfl (by kernel_rfl) (by kernel_rfl) (by kernel_rfl) (fun _ _ _ h => h) (Or.inl ⟨by rfl, ?hy51⟩) (by assumption) ?rest51; (case hy51 => (intro w hSw; (try dsimp only at hSw); go_simp <;> with_reducible rfl)); simp only [List.getElem_toArray, List.getElem_cons_succ, List.getElem_cons_zero, Act.put, List.setIfInBounds_toArray, List.set_cons_zero, List.set_cons_succ]); (refine' wpAnyH_take (i := 1) (v := _) rfl (by kernel_rfl) (by kernel_rfl) (by kernel_rfl) (fun _ _ _ h => h) (Or.inl ⟨by rfl, ?hy52⟩) (by assumption) ?rest52; (case hy52 => (intro w hSw; (try dsimp only at hSw); go_simp <;> with_reducible rfl)); simp only [List.getElem_toArray, List.getElem_cons_succ, List.getElem_cons_zero, Act.put, List.setIfInBounds_toArray, List.set_cons_zero, List.set_cons_succ]); (refine' wpAnyH_take (i := 2) (v := _) rfl (by kernel_rfl) (by kernel_rfl) (by kernel_rfl) (fun _ _ _ h => h) (Or.inl ⟨by rfl, ?hy53⟩) (by assumption) ?rest53; (case hy53 => (intro w hSw; (try dsimp only at hSw); go_simp <;> with_reducible rfl)); simp only [List.getElem_toArray, List.getElem_cons_succ, List.getElem_cons_zero, Act.put, List.setIfInBounds_toArray, List.set_cons_zero, List.set_cons_succ]); (refine' wpAnyH_take (i := 3) (v := _) rfl (by kernel_rfl) (by kernel_rfl) (by kernel_rfl) (fun _ _ _ h => h) (Or.inl ⟨by rfl, ?hy54⟩) (by assumption) ?rest54; (case hy54 => (intro w hSw; (try dsimp only at hSw); go_simp <;> with_reducible rfl)); simp only [List.getElem_toArray, List.getElem_cons_succ, List.getElem_cons_zero, Act.put, List.setIfInBounds_toArray, List.set_cons_zero, List.set_cons_succ]); (refine' wpAnyH_take (i := 4) (v := _) rfl (by kernel_rfl) (by kernel_rfl) (by kernel_rfl) (fun _ _ _ h => h) (Or.inl ⟨by rfl, ?hy55⟩) (by assumption) ?rest55; (case hy55 => (intro w hSw; (try dsimp only at hSw); go_simp <;> with_reducible rfl)); simp only [List.getElem_toArray, List.getElem_cons_succ, List.getElem_cons_zero, Act.put, List.setIfInBounds_toArray, List.set_cons_zero, List.set_cons_succ]))
          refine wpAnyH_ready (rs := [5]) (by kernel_rfl) (by simp) ?_
          refine AllReadyH.cons rfl (fun K hK => ?_) AllReadyH.nil
          rw [if_pos (by rfl)]
          go_simp
          have hsame := rSame_any ⟨2, 0, now + dl, (n : Int) + 1, id, now, retryC ++ g, tg, bd, ks⟩ ⟨2, 0, now + dl, (n : Int) + 1, id, now, retryC ++ g, tg, bd, ks⟩ (.slice va ks.length vcap) (.slice ka ks.length kcap)
          rw [decide_eq_true rfl] at hsame
          refine (hsame _ (Hst'.out.calm (A5.out.trans (by (repeat' (first | (with_reducible exact Calm.refl _) | (with_reducible assumption) | (with_reducible refine Calm.drew ?_) | (with_reducible refine Calm.alloc ?_ _) | (with_reducible refine Calm.trans ?_ (by assumption))))))) (Hst.out.calm (C5.out.trans (by (repeat' (first | (with_reducible exact Calm.refl _) | (with_reducible assumption) | (with_reducible refine Calm.drew ?_) | (with_reducible refine Calm.alloc ?_ _) | (with_reducible refine Calm.trans ?_ (by assumption))))))) (by have := Hsm.out.2.2.2.1; simp only at this ⊢; omega) (by have := Hsm.out.2.2.2.1; simp only at this ⊢; omega)).mono ?_
          rintro e w7 ⟨rfl, hb⟩
          go_wp2_with fail
          have C7 := box (Calm.trans (show Calm w5 _ by (repeat' (first | (with_reducible exact Calm.refl _) | (with_reducible assumption) | (with_reducible refine Calm.drew ?_) | (with_reducible refine Calm.alloc ?_ _) | (with_reducible refine Calm.trans ?_ (by assumption))))) hb)
          obtain ⟨g0, g1, g2, g3, g4, g5, g6, g7, g8, g9, g10, g11, g12, g13, g14, g15, g16, g17, g18, g19⟩ := hHeld
          refine hK.out _ _ ⟨keep_cell hb g0, keep_cell hb g1, keep_cell hb g2, keep_cell hb g3, keep_cell hb g4, keep_cell hb g5, keep_cell hb g6, keep_cell hb g7, keep_cell hb g8, keep_cell hb g9, keep_cell hb g10, keep_cell hb g11, keep_cell hb g12, keep_cell hb g13, keep_cell hb g14, keep_cell hb g15, keep_cell hb g16, keep_cell hb g17, keep_cell hb g18, keep_cell hb g19⟩ (fun hHeld => ?_)
          clear hK K hb g0 g1 g2 g3 g4 g5 g6 g7 g8 g9 g10 g11 g12 g13 g14 g15 g16 g17 g18 g19 hsame
          try simp only [List.getElem_toArray, List.getElem_cons_succ, List.getElem_cons_zero, Act.put, List.setIfInBounds_toArray, List.set_cons_zero, List.set_cons_succ]
          ((refine' wpAnyH_take (i := 6) (v := _) rfl (by kernel_rfl) (by kernel_rfl) (by kernel_rfl) (fun _ _ _ h => h) (Or.inl ⟨by rfl, ?hy56⟩) (by assumption) ?rest56; (case hy56 => (intro w hSw; (try dsimp only at hSw); go_simp <;> with_reducible rfl)); simp only [List.getElem_toArray, List.getElem_cons_succ, List.getElem_cons_zero, Act.put, List.setIfInBounds_toArray, List.set_cons_zero, List.set_cons_succ]); (refine' wpAnyH_take (i := 7) (v := _) rfl (by kernel_rfl) (by kernel_rfl) (by kernel_rfl) (fun _ _ _ h => h) (Or.inl ⟨by rfl, ?hy57⟩) (by assumption) ?rest57; (case hy57 => (intro w hSw; (try dsimp only at hSw); go_simp <;> with_reducible rfl)); simp only [List.getElem_toArray, List.getElem_cons_succ, List.getElem_cons_zero, Act.put, List.setIfInBounds_toArray, List.set_cons_zero, List.set_cons_succ]); (refine' wpAnyH_take (i := 8) (v := _) rfl (by kernel_rfl) (by kernel_rfl) (by kernel_rfl) (fun _ _ _ h => h) (Or.inl ⟨by rfl, ?hy58⟩) (by assumption) ?rest58; (case hy58 => (intro w hSw; (try dsimp only at hSw); go_simp <;> with_reducible rfl)); simp only [List.getElem_toArray, List.getElem_cons_succ, List.getElem_cons_zero, Act.put, List.setIfInBounds_toArray, List.set_cons_zero, List.set_cons_succ]))
          refine wpAnyH_ready (rs := [9]) (by kernel_rfl) (by simp) ?_
          refine AllReadyH.cons rfl (fun K hK => ?_) AllReadyH.nil
          rw [if_pos (by rfl)]
          go_simp
          have hright := rRight_any ⟨2, 0, now + dl, (n : Int) + 1, id, now, retryC ++ g, tg, bd, ks⟩ (.slice va ks.length vcap) w7 (Hst'.out.calm (A5.out.trans C7.out)) Hkz.out.1 ⟨by have := HTZ.out; exact this, Hz.out.2.2.1, Hz.out.1⟩
          rw [decide_eq_true HRX.out] at hright
          refine hright.mono ?_
          rintro e w8 ⟨rfl, hb⟩
          go_wp2_with fail
          have C8 := box (C7.out.trans hb)
          obtain ⟨g0, g1, g2, g3, g4, g5, g6, g7, g8, g9, g10, g11, g12, g13, g14, g15, g16, g17, g18, g19⟩ := hHeld
          refine hK.out _ _ ⟨keep_cell hb g0, keep_cell hb g1, keep_cell hb g2, keep_cell hb g3, keep_cell hb g4, keep_cell hb g5, keep_cell hb g6, keep_cell hb g7, keep_cell hb g8, keep_cell hb g9, keep_cell hb g10, keep_cell hb g11, keep_cell hb g12, keep_cell hb g13, keep_cell hb g14, keep_cell hb g15, keep_cell hb g16, keep_cell hb g17, keep_cell hb g18, keep_cell hb g19⟩ (fun hHeld => ?_)
          clear hK K hb g0 g1 g2 g3 g4 g5 g6 g7 g8 g9 g10 g11 g12 g13 g14 g15 g16 g17 g18 g19 hright
          try simp only [List.getElem_toArray, List.getElem_cons_succ, List.getElem_cons_zero, Act.put, List.setIfInBounds_toArray, List.set_cons_zero, List.set_cons_succ]
          ((refine' wpAnyH_take (i := 10) (v := _) rfl (by kernel_rfl) (by kernel_rfl) (by kernel_rfl) (fun _ _ _ h => h) (Or.inl ⟨by rfl, ?hy59⟩) (by assumption) ?rest59; (case hy59 => (intro w hSw; (try dsimp only at hSw); go_simp <;> with_reducible rfl)); simp only [List.getElem_toArray, List.getElem_cons_succ, List.getElem_cons_zero, Act.put, List.setIfInBounds_toArray, List.set_cons_zero, List.set_cons_succ]); (refine' wpAnyH_take (i := 11) (v := _) rfl (by kernel_rfl) (by kernel_rfl) (by kernel_rfl) (fun _ _ _ h => h) (Or.inl ⟨by rfl, ?hy60⟩) (by assumption) ?rest60; (case hy60 => (intro w hSw; (try dsimp only at hSw); go_simp <;> with_reducible rfl)); simp only [List.getElem_toArray, List.getElem_cons_succ, List.getElem_cons_zero, Act.put, List.setIfInBounds_toArray, List.set_cons_zero, List.set_cons_succ]); (refine' wpAnyH_take (i := 12) (v := _) rfl (by kernel_rfl) (by kernel_rfl) (by kernel_rfl) (fun _ _ _ h => h) (Or.inl ⟨by rfl, ?hy61⟩) (by assumption) ?rest61; (case hy61 => (intro w hSw; (try dsimp only at hSw); go_simp <;> with_reducible rfl)); simp only [List.getElem_toArray, List.getElem_cons_succ, List.getElem_cons_zero, Act.put, List.setIfInBounds_toArray, List.set_cons_zero, List.set_cons_succ]); (refine' wpAnyH_take (i := 13) (v := _) rfl (by kernel_rfl) (by kernel_rfl) (by kernel_rfl) (fun _ _ _ h => h) (Or.inl ⟨by rfl, ?hy62⟩) (by assumption) ?rest62; (case hy62 => (intro w hSw; (try dsimp only at hSw); go_simp <;> with_reducible rfl)); simp only [List.getElem_toArray, List.getElem_cons_succ, List.getElem_cons_zero, Act.put, List.setIfInBounds_toArray, List.set_cons_zero, List.set_cons_succ]); (refine' wpAnyH_take (i := 14) (v := _) rfl (by kernel_rfl) (by kernel_rfl) (by kernel_rfl) (fun _ _ _ h => h) (Or.inl ⟨by rfl, ?hy63⟩) (by assumption) ?rest63; (case hy63 => (intro w hSw; (try dsimp only at hSw); go_simp <;> with_reducible rfl)); simp only [List.getElem_toArray, List.getElem_cons_succ, List.getElem_cons_zero, Act.put, List.setIfInBounds_toArray, List.set_cons_zero, List.set_cons_succ]); (refine' wpAnyH_take (i := 15) (v := _) rfl (by kernel_rfl) (by kernel_rfl) (by kernel_rfl) (fun _ _ _ h => h) (Or.inl ⟨by rfl, ?hy64⟩) (by assumption) ?rest64; (case hy64 => (intro w hSw; (try dsimp only at hSw); go_simp <;> with_reducible rfl)); simp only [List.getElem_toArray, List.getElem_cons_succ, List.getElem_cons_zero, Act.put, List.setIfInBounds_toArray, List.set_cons_zero, List.set_cons_succ]); (refine' wpAnyH_take (i := 16) (v := _) rfl (by kernel_rfl) (by kernel_rfl) (by kernel_rfl) (fun _ _ _ h => h) (Or.inl ⟨by rfl, ?hy65⟩) (by assumption) ?rest65; (case hy65 => (intro w hSw; (try dsimp only at hSw); go_simp <;> with_reducible rfl)); simp only [List.getElem_toArray, List.getElem_cons_succ, List.getElem_cons_zero, Act.put, List.setIfInBounds_toArray, List.set_cons_zero, List.set_cons_succ]); (refine' wpAnyH_take (i := 17) (v := _) rfl (by kernel_rfl) (by kernel_rfl) (by kernel_rfl) (fun _ _ _ h => h) (Or.inl ⟨by rfl, ?hy66⟩) (by assumption) ?rest66; (case hy66 => (intro w hSw; (try dsimp only at hSw); go_simp <;> with_reducible rfl)); simp only [List.getElem_toArray, List.getElem_cons_succ, List.getElem_cons_zero, Act.put, List.setIfInBounds_toArray, List.set_cons_zero, List.set_cons_succ]); (refine' wpAnyH_take (i := 18) (v := _) rfl (by kernel_rfl) (by kernel_rfl) (by kernel_rfl) (fun _ _ _ h => h) (Or.inl ⟨by rfl, ?hy67⟩) (by assumption) ?rest67; (case hy67 => (intro w hSw; (try dsimp only at hSw); go_simp <;> with_reducible rfl)); simp only [List.getElem_toArray, List.getElem_cons_succ, List.getElem_cons_zero, Act.put, List.setIfInBounds_toArray, List.set_cons_zero, List.set_cons_succ]); (refine' wpAnyH_take (i := 19) (v := _) rfl (by kernel_rfl) (by kernel_rfl) (by kernel_rfl) (fun _ _ _ h => h) (Or.inl ⟨by rfl, ?hy68⟩) (by assumption) ?rest68; (case hy68 => (intro w hSw; (try dsimp only at hSw); go_simp <;> with_reducible rfl)); simp only [List.getElem_toArray, List.getElem_cons_succ, List.getElem_cons_zero, Act.put, List.setIfInBounds_toArray, List.set_cons_zero, List.set_cons_succ]); (refine' wpAnyH_take (i := 20) (v := _) rfl (by kernel_rfl) (by kernel_rfl) (by kernel_rfl) (fun _ _ _ h => h) (Or.inl ⟨by rfl, ?hy69⟩) (by assumption) ?rest69; (case hy69 => (intro w hSw; (try dsimp only at hSw); go_simp <;> with_reducible rfl)); simp only [List.getElem_toArray, List.getElem_cons_succ, List.getElem_cons_zero, Act.put, List.setIfInBounds_toArray, List.set_cons_zero, List.set_cons_succ]); (refine' wpAnyH_take (i := 21) (v := _) rfl (by kernel_rfl) (by kernel_rfl) (by kernel_rfl) (fun _ _ _ h => h) (Or.inl ⟨by rfl, ?hy70⟩) (by assumption) ?rest70; (case hy70 => (intro w hSw; (try dsimp only at hSw); go_simp <;> with_reducible rfl)); simp only [List.getElem_toArray, List.getElem_cons_succ, List.getElem_cons_zero, Act.put, List.setIfInBounds_toArray, List.set_cons_zero, List.set_cons_succ]))
          refine wpAnyH_ready (rs := [22]) (by kernel_rfl) (by simp) ?_
          refine AllReadyH.cons rfl (fun K hK => ?_) AllReadyH.nil
          rw [if_pos (by rfl)]
          go_simp
          refine (hdel.out _).mono ?_
          rintro e w9 ⟨rfl, rfl⟩
          go_wp2_with fail
          refine hK.out _ _ hHeld (fun hHeld => ?_)
          clear hK K
          try simp only [List.getElem_toArray, List.getElem_cons_succ, List.getElem_cons_zero, Act.put, List.setIfInBounds_toArray, List.set_cons_zero, List.set_cons_succ]
          ((refine' wpAnyH_take (i := 23) (v := _) rfl (by kernel_rfl) (by kernel_rfl) (by kernel_rfl) (fun _ _ _ h => h) (Or.inl ⟨by rfl, ?hy71⟩) (by assumption) ?rest71; (case hy71 => (intro w hSw; (try dsimp only at hSw); go_simp <;> with_reducible rfl)); simp only [List.getElem_toArray, List.getElem_cons_succ, List.getElem_cons_zero, Act.put, List.setIfInBounds_toArray, List.set_cons_zero, List.set_cons_succ]); (refine' wpAnyH_take (i := 24) (v := _) rfl (by kernel_rfl) (by kernel_rfl) (by kernel_rfl) (fun _ _ _ h => h) (Or.inl ⟨by rfl, ?hy72⟩) (by assumption) ?rest72; (case hy72 => (intro w hSw; (try dsimp only at hSw); go_simp <;> with_reducible rfl)); simp only [List.getElem_toArray, List.getElem_cons_succ, List.getElem_cons_zero, Act.put, List.setIfInBounds_toArray, List.set_cons_zero, List.set_cons_succ]); (refine' wpAnyH_take (i := 25) (v := _) rfl (by kernel_rfl) (by kernel_rfl) (by kernel_rfl) (fun _ _ _ h => h) (Or.inl ⟨by rfl, ?hy73⟩) (by assumption) ?rest73; (case hy73 => (intro w hSw; (try dsimp only at hSw); go_simp <;> with_reducible rfl)); simp only [List.getElem_toArray, List.getElem_cons_succ, List.getElem_cons_zero, Act.put, List.setIfInBounds_toArray, List.set_cons_zero, List.set_cons_succ]); (refine' wpAnyH_take (i := 26) (v := _) rfl (by kernel_rfl) (by kernel_rfl) (by kernel_rfl) (fun _ _ _ h => h) (Or.inl ⟨by rfl, ?hy74⟩) (by assumption) ?rest74; (case hy74 => (intro w hSw; (try dsimp only at hSw); go_simp <;> with_reducible rfl)); simp only [List.getElem_toArray, List.getElem_cons_succ, List.getElem_cons_zero, Act.put, List.setIfInBounds_toArray, List.set_cons_zero, List.set_cons_succ]))
          refine wpAnyH_done (by kernel_rfl) ?_ _
          go_wp2_with fail
          go_ret
          exact ⟨rfl, C5.out.trans C8.out⟩
        · go_wp2_with fail
          refine (small_any id _).mono ?_
          rw [Htid.out]
          rintro e w6 ⟨rfl, rfl⟩
          go_wp2_with fail
          refine (small_any now _).mono ?_
          rw [Htn.out]
          rintro e w6 ⟨rfl, rfl⟩
          go_wp2_with fail
          refine wp_region_held_drew (S := fun w' => w'.cell? ⟨w3.heap.size, 0, none⟩ = some (.int .i64 2) ∧ w'.cell? ⟨w3.heap.size, 1, none⟩ = some (.int .i64 0) ∧ w'.cell? ⟨w3.heap.size, 2, none⟩ = some (.int .i64 (now + dl)) ∧ w'.cell? ⟨w3.heap.size, 3, none⟩ = some (.int .i64 ((n : Int) + 1)) ∧ w'.cell? ⟨w3.heap.size, 4, none⟩ = some (.int .i64 id) ∧ w'.cell? ⟨w3.heap.size, 5, none⟩ = some (.int .i64 now) ∧ w'.cell? ⟨w3.heap.size, 6, none⟩ = some (.string (retryC ++ g)) ∧ w'.cell? ⟨w3.heap.size, 7, none⟩ = some (.string tg) ∧ w'.cell? ⟨w3.heap.size, 8, none⟩ = some (.string bd) ∧ w'.cell? ⟨w3.heap.size, 9, none⟩ = some (.slice va ks.length vcap) ∧ w'.cell? ⟨w5.heap.size, 0, none⟩ = some (.int .i64 2) ∧ w'.cell? ⟨w5.heap.size, 1, none⟩ = some (.int .i64 0) ∧ w'.cell? ⟨w5.heap.size, 2, none⟩ = some (.int .i64 (now + dl)) ∧ w'.cell? ⟨w5.heap.size, 3, none⟩ = some (.int .i64 ((n : Int) + 1)) ∧ w'.cell? ⟨w5.heap.size, 4, none⟩ = some (.int .i64 id) ∧ w'.cell? ⟨w5.heap.size, 5, none⟩ = some (.int .i64 now) ∧ w'.cell? ⟨w5.heap.size, 6, none⟩ = some (.string (retryC ++ g)) ∧ w'.cell? ⟨w5.heap.size, 7, none⟩ = some (.string tg) ∧ w'.cell? ⟨w5.heap.size, 8, none⟩ = some (.string bd) ∧ w'.cell? ⟨w5.heap.size, 9, none⟩ = some (.slice ka ks.length kcap)) (by kernel_rfl) (by go_keep) (fun hHeld => ?_)
          ((refine' wpAnyH_take (i := 0) (v := _) rfl (by kernel_rfl) (by kernel_rfl) (by kernel_rfl) (fun _ _ _ h => h) (Or.inl ⟨by rfl, ?hy75⟩) (by assumption) ?rest75; (case hy75 => (intro w hSw; (try dsimp only at hSw); go_simp <;> with_reducible rfl)); simp only [List.getElem_toArray, List.getElem_cons_succ, List.getElem_cons_zero, Act.put, List.setIfInBounds_toArray, List.set_cons_zero, List.set_cons_succ]); (refine' wpAnyH_take (i := 1) (v := _) rfl (by kernel_rfl) (by kernel_rfl) (by kernel_rfl) (fun _ _ _ h => h) (Or.inl ⟨by rfl, ?hy76⟩) (by assumption) ?rest76; (case hy76 => (intro w hSw; (try dsimp only at hSw); go_simp <;> with_reducible rfl)); simp only [List.getElem_toArray, List.getElem_cons_succ, List.getElem_cons_zero, Act.put, List.setIfInBounds_toArray, List.set_cons_zero, List.set_cons_succ]); (refine' wpAnyH_take (i := 2) (v := _) rfl (by kernel_rfl) (by kernel_rfl) (by kernel_rfl) (fun _ _ _ h => h) (Or.inl ⟨by rfl, ?hy77⟩) (by assumption) ?rest77; (case hy77 => (intro w hSw; (try dsimp only at hSw); go_simp <;> with_reducible rfl)); simp only [List.getElem_toArray, List.getElem_cons_succ, List.getElem_cons_zero, Act.put, List.setIfInBounds_toArray, List.set_cons_zero, List.set_cons_succ]); (refine' wpAnyH_take (i := 3) (v := _) rfl (by kernel_rfl) (by kernel_rfl) (by kernel_rfl) (fun _ _ _ h => h) (Or.inl ⟨by rfl, ?hy78⟩) (by assumption) ?rest78; (case hy78 => (intro w hSw; (try dsimp only at hSw); go_simp <;> with_reducible rfl)); simp only [List.getElem_toArray, List.getElem_cons_succ, List.getElem_cons_zero, Act.put, List.setIfInBounds_toArray, List.set_cons_zero, List.set_cons_succ]); (refine' wpAnyH_take (i := 4) (v := _) rfl (by kernel_rfl) (by kernel_rfl) (by kernel_rfl) (fun _ _ _ h => h) (Or.inl ⟨by rfl, ?hy79⟩) (by assumption) ?rest79; (case hy79 => (intro w hSw; (try dsimp only at hSw); go_simp <;> with_reducible rfl)); simp only [List.getElem_toArray, List.getElem_cons_succ, List.getElem_cons_zero, Act.put, List.setIfInBounds_toArray, List.set_cons_zero, List.set_cons_succ]))
          refine wpAnyH_ready (rs := [5]) (by kernel_rfl) (by simp) ?_
          refine AllReadyH.cons rfl (fun K hK => ?_) AllReadyH.nil
          rw [if_pos (by rfl)]
          go_simp
          have hsame := rSame_any ⟨2, 0, now + dl, (n : Int) + 1, id, now, retryC ++ g, tg, bd, ks⟩ ⟨2, 0, now + dl, (n : Int) + 1, id, now, retryC ++ g, tg, bd, ks⟩ (.slice va ks.length vcap) (.slice ka ks.length kcap)
          rw [decide_eq_true rfl] at hsame
          refine (hsame _ (Hst'.out.calm (A5.out.trans (by (repeat' (first | (with_reducible exact Calm.refl _) | (with_reducible assumption) | (with_reducible refine Calm.drew ?_) | (with_reducible refine Calm.alloc ?_ _) | (with_reducible refine Calm.trans ?_ (by assumption))))))) (Hst.out.calm (C5.out.trans (by (repeat' (first | (with_reducible exact Calm.refl _) | (with_reducible assumption) | (with_reducible refine Calm.drew ?_) | (with_reducible refine Calm.alloc ?_ _) | (with_reducible refine Calm.trans ?_ (by assumption))))))) (by have := Hsm.out.2.2.2.1; simp only at this ⊢; omega) (by have := Hsm.out.2.2.2.1; simp only at this ⊢; omega)).mono ?_
          rintro e w7 ⟨rfl, hb⟩
          go_wp2_with fail
          have C7 := box (Calm.trans (show Calm w5 _ by (repeat' (first | (with_reducible exact Calm.refl _) | (with_reducible assumption) | (with_reducible refine Calm.drew ?_) | (with_reducible refine Calm.alloc ?_ _) | (with_reducible refine Calm.trans ?_ (by assumption))))) hb)
          obtain ⟨g0, g1, g2, g3, g4, g5, g6, g7, g8, g9, g10, g11, g12, g13, g14, g15, g16, g17, g18, g19⟩ := hHeld
          refine hK.out _ _ ⟨keep_cell hb g0, keep_cell hb g1, keep_cell hb g2, keep_cell hb g3, keep_cell hb g4, keep_cell hb g5, keep_cell hb g6, keep_cell hb g7, keep_cell hb g8, keep_cell hb g9, keep_cell hb g10, keep_cell hb g11, keep_cell hb g12, keep_cell hb g13, keep_cell hb g14, keep_cell hb g15, keep_cell hb g16, keep_cell hb g17, keep_cell hb g18, keep_cell hb g19⟩ (fun hHeld => ?_)
          clear hK K hb g0 g1 g2 g3 g4 g5 g6 g7 g8 g9 g10 g11 g12 g13 g14 g15 g16 g17 g18 g19 hsame
          try simp only [List.getElem_toArray, List.getElem_cons_succ, List.getElem_cons_zero, Act.put, List.setIfInBounds_toArray, List.set_cons_zero, List.set_cons_succ]
          ((refine' wpAnyH_take (i := 6) (v := _) rfl (by kernel_rfl) (by kernel_rfl) (by kernel_rfl) (fun _ _ _ h => h) (Or.inl ⟨by rfl, ?hy80⟩) (by assumption) ?rest80; (case hy80 => (intro w hSw; (try dsimp only at hSw); go_simp <;> with_reducible rfl)); simp only [List.getElem_toArray, List.getElem_cons_succ, List.getElem_cons_zero, Act.put, List.setIfInBounds_toArray, List.set_cons_zero, List.set_cons_succ]); (refine' wpAnyH_take (i := 7) (v := _) rfl (by kernel_rfl) (by kernel_rfl) (by kernel_rfl) (fun _ _ _ h => h) (Or.inl ⟨by rfl, ?hy81⟩) (by assumption) ?rest81; (case hy81 => (intro w hSw; (try dsimp only at hSw); go_simp <;> with_reducible rfl)); simp only [List.getElem_toArray, List.getElem_cons_succ, List.getElem_cons_zero, Act.put, List.setIfInBounds_toArray, List.set_cons_zero, List.set_cons_succ]); (refine' wpAnyH_take (i := 8) (v := _) rfl (by kernel_rfl) (by kernel_rfl) (by kernel_rfl) (fun _ _ _ h => h) (Or.inl ⟨by rfl, ?hy82⟩) (by assumption) ?rest82; (case hy82 => (intro w hSw; (try dsimp only at hSw); go_simp <;> with_reducible rfl)); simp only [List.getElem_toArray, List.getElem_cons_succ, List.getElem_cons_zero, Act.put, List.setIfInBounds_toArray, List.set_cons_zero, List.set_cons_succ]))
          refine wpAnyH_ready (rs := [9]) (by kernel_rfl) (by simp) ?_
          refine AllReadyH.cons rfl (fun K hK => ?_) AllReadyH.nil
          rw [if_pos (by rfl)]
          go_simp
          have hright := rRight_any ⟨2, 0, now + dl, (n : Int) + 1, id, now, retryC ++ g, tg, bd, ks⟩ (.slice va ks.length vcap) w7 (Hst'.out.calm (A5.out.trans C7.out)) Hkz.out.1 ⟨by have := HTZ.out; exact this, Hz.out.2.2.1, Hz.out.1⟩
          rw [decide_eq_true HRX.out] at hright
          refine hright.mono ?_
          rintro e w8 ⟨rfl, hb⟩
          go_wp2_with fail
          have C8 := box (C7.out.trans hb)
          obtain ⟨g0, g1, g2, g3, g4, g5, g6, g7, g8, g9, g10, g11, g12, g13, g14, g15, g16, g17, g18, g19⟩ := hHeld
          refine hK.out _ _ ⟨keep_cell hb g0, keep_cell hb g1, keep_cell hb g2, keep_cell hb g3, keep_cell hb g4, keep_cell hb g5, keep_cell hb g6, keep_cell hb g7, keep_cell hb g8, keep_cell hb g9, keep_cell hb g10, keep_cell hb g11, keep_cell hb g12, keep_cell hb g13, keep_cell hb g14, keep_cell hb g15, keep_cell hb g16, keep_cell hb g17, keep_cell hb g18, keep_cell hb g19⟩ (fun hHeld => ?_)
          clear hK K hb g0 g1 g2 g3 g4 g5 g6 g7 g8 g9 g10 g11 g12 g13 g14 g15 g16 g17 g18 g19 hright
          try simp only [List.getElem_toArray, List.getElem_cons_succ, List.getElem_cons_zero, Act.put, List.setIfInBounds_toArray, List.set_cons_zero, List.set_cons_succ]
          ((refine' wpAnyH_take (i := 10) (v := _) rfl (by kernel_rfl) (by kernel_rfl) (by kernel_rfl) (fun _ _ _ h => h) (Or.inl ⟨by rfl, ?hy83⟩) (by assumption) ?rest83; (case hy83 => (intro w hSw; (try dsimp only at hSw); go_simp <;> with_reducible rfl)); simp only [List.getElem_toArray, List.getElem_cons_succ, List.getElem_cons_zero, Act.put, List.setIfInBounds_toArray, List.set_cons_zero, List.set_cons_succ]); (refine' wpAnyH_take (i := 11) (v := _) rfl (by kernel_rfl) (by kernel_rfl) (by kernel_rfl) (fun _ _ _ h => h) (Or.inl ⟨by rfl, ?hy84⟩) (by assumption) ?rest84; (case hy84 => (intro w hSw; (try dsimp only at hSw); go_simp <;> with_reducible rfl)); simp only [List.getElem_toArray, List.getElem_cons_succ, List.getElem_cons_zero, Act.put, List.setIfInBounds_toArray, List.set_cons_zero, List.set_cons_succ]); (refine' wpAnyH_take (i := 12) (v := _) rfl (by kernel_rfl) (by kernel_rfl) (by kernel_rfl) (fun _ _ _ h => h) (Or.inl ⟨by rfl, ?hy85⟩) (by assumption) ?rest85; (case hy85 => (intro w hSw; (try dsimp only at hSw); go_simp <;> with_reducible rfl)); simp only [List.getElem_toArray, List.getElem_cons_succ, List.getElem_cons_zero, Act.put, List.setIfInBounds_toArray, List.set_cons_zero, List.set_cons_succ]); (refine' wpAnyH_take (i := 13) (v := _) rfl (by kernel_rfl) (by kernel_rfl) (by kernel_rfl) (fun _ _ _ h => h) (Or.inl ⟨by rfl, ?hy86⟩) (by assumption) ?rest86; (case hy86 => (intro w hSw; (try dsimp only at hSw); go_simp <;> with_reducible rfl)); simp only [List.getElem_toArray, List.getElem_cons_succ, List.getElem_cons_zero, Act.put, List.setIfInBounds_toArray, List.set_cons_zero, List.set_cons_succ]); (refine' wpAnyH_take (i := 14) (v := _) rfl (by kernel_rfl) (by kernel_rfl) (by kernel_rfl) (fun _ _ _ h => h) (Or.inl ⟨by rfl, ?hy87⟩) (by assumption) ?rest87; (case hy87 => (intro w hSw; (try dsimp only at hSw); go_simp <;> with_reducible rfl)); simp only [List.getElem_toArray, List.getElem_cons_succ, List.getElem_cons_zero, Act.put, List.setIfInBounds_toArray, List.set_cons_zero, List.set_cons_succ]); (refine' wpAnyH_take (i := 15) (v := _) rfl (by kernel_rfl) (by kernel_rfl) (by kernel_rfl) (fun _ _ _ h => h) (Or.inl ⟨by rfl, ?hy88⟩) (by assumption) ?rest88; (case hy88 => (intro w hSw; (try dsimp only at hSw); go_simp <;> with_reducible rfl)); simp only [List.getElem_toArray, List.getElem_cons_succ, List.getElem_cons_zero, Act.put, List.setIfInBounds_toArray, List.set_cons_zero, List.set_cons_succ]); (refine' wpAnyH_take (i := 16) (v := _) rfl (by kernel_rfl) (by kernel_rfl) (by kernel_rfl) (fun _ _ _ h => h) (Or.inl ⟨by rfl, ?hy89⟩) (by assumption) ?rest89; (case hy89 => (intro w hSw; (try dsimp only at hSw); go_simp <;> with_reducible rfl)); simp only [List.getElem_toArray, List.getElem_cons_succ, List.getElem_cons_zero, Act.put, List.setIfInBounds_toArray, List.set_cons_zero, List.set_cons_succ]); (refine' wpAnyH_take (i := 17) (v := _) rfl (by kernel_rfl) (by kernel_rfl) (by kernel_rfl) (fun _ _ _ h => h) (Or.inl ⟨by rfl, ?hy90⟩) (by assumption) ?rest90; (case hy90 => (intro w hSw; (try dsimp only at hSw); go_simp <;> with_reducible rfl)); simp only [List.getElem_toArray, List.getElem_cons_succ, List.getElem_cons_zero, Act.put, List.setIfInBounds_toArray, List.set_cons_zero, List.set_cons_succ]); (refine' wpAnyH_take (i := 18) (v := _) rfl (by kernel_rfl) (by kernel_rfl) (by kernel_rfl) (fun _ _ _ h => h) (Or.inl ⟨by rfl, ?hy91⟩) (by assumption) ?rest91; (case hy91 => (intro w hSw; (try dsimp only at hSw); go_simp <;> with_reducible rfl)); simp only [List.getElem_toArray, List.getElem_cons_succ, List.getElem_cons_zero, Act.put, List.setIfInBounds_toArray, List.set_cons_zero, List.set_cons_succ]); (refine' wpAnyH_take (i := 19) (v := _) rfl (by kernel_rfl) (by kernel_rfl) (by kernel_rfl) (fun _ _ _ h => h) (Or.inl ⟨by rfl, ?hy92⟩) (by assumption) ?rest92; (case hy92 => (intro w hSw; (try dsimp only at hSw); go_simp <;> with_reducible rfl)); simp only [List.getElem_toArray, List.getElem_cons_succ, List.getElem_cons_zero, Act.put, List.setIfInBounds_toArray, List.set_cons_zero, List.set_cons_succ]); (refine' wpAnyH_take (i := 20) (v := _) rfl (by kernel_rfl) (by kernel_rfl) (by kernel_rfl) (fun _ _ _ h => h) (Or.inl ⟨by rfl, ?hy93⟩) (by assumption) ?rest93; (case hy93 => (intro w hSw; (try dsimp only at hSw); go_simp <;> with_reducible rfl)); simp only [List.getElem_toArray, List.getElem_cons_succ, List.getElem_cons_zero, Act.put, List.setIfInBounds_toArray, List.set_cons_zero, List.set_cons_succ]); (refine' wpAnyH_take (i := 21) (v := _) rfl (by kernel_rfl) (by kernel_rfl) (by kernel_rfl) (fun _ _ _ h => h) (Or.inl ⟨by rfl, ?hy94⟩) (by assumption) ?rest94; (case hy94 => (intro w hSw; (try dsimp only at hSw); go_simp <;> with_reducible rfl)); simp only [List.getElem_toArray, List.getElem_cons_succ, List.getElem_cons_zero, Act.put, List.setIfInBounds_toArray, List.set_cons_zero, List.set_cons_succ]))
          refine wpAnyH_ready (rs := [22]) (by kernel_rfl) (by simp) ?_
          refine AllReadyH.cons rfl (fun K hK => ?_) AllReadyH.nil
          rw [if_pos (by rfl)]
          go_simp
          refine (hdel.out _).mono ?_
          rintro e w9 ⟨rfl, rfl⟩
          go_wp2_with fail
          refine hK.out _ _ hHeld (fun hHeld => ?_)
          clear hK K
          try simp only [List.getElem_toArray, List.getElem_cons_succ, List.getElem_cons_zero, Act.put, List.setIfInBounds_toArray, List.set_cons_zero, List.set_cons_succ]
          ((refine' wpAnyH_take (i := 23) (v := _) rfl (by kernel_rfl) (by kernel_rfl) (by kernel_rfl) (fun _ _ _ h => h) (Or.inl ⟨by rfl, ?hy95⟩) (by assumption) ?rest95; (case hy95 => (intro w hSw; (try dsimp only at hSw); go_simp <;> with_reducible rfl)); simp only [List.getElem_toArray, List.getElem_cons_succ, List.getElem_cons_zero, Act.put, List.setIfInBounds_toArray, List.set_cons_zero, List.set_cons_succ]); (refine' wpAnyH_take (i := 24) (v := _) rfl (by kernel_rfl) (by kernel_rfl) (by kernel_rfl) (fun _ _ _ h => h) (Or.inl ⟨by rfl, ?hy96⟩) (by assumption) ?rest96; (case hy96 => (intro w hSw; (try dsimp only at hSw); go_simp <;> with_reducible rfl)); simp only [List.getElem_toArray, List.getElem_cons_succ, List.getElem_cons_zero, Act.put, List.setIfInBounds_toArray, List.set_cons_zero, List.set_cons_succ]); (refine' wpAnyH_take (i := 25) (v := _) rfl (by kernel_rfl) (by kernel_rfl) (by kernel_rfl) (fun _ _ _ h => h) (Or.inl ⟨by rfl, ?hy97⟩) (by assumption) ?rest97; (case hy97 => (intro w hSw; (try dsimp only at hSw); go_simp <;> with_reducible rfl)); simp only [List.getElem_toArray, List.getElem_cons_succ, List.getElem_cons_zero, Act.put, List.setIfInBounds_toArray, List.set_cons_zero, List.set_cons_succ]); (refine' wpAnyH_take (i := 26) (v := _) rfl (by kernel_rfl) (by kernel_rfl) (by kernel_rfl) (fun _ _ _ h => h) (Or.inl ⟨by rfl, ?hy98⟩) (by assumption) ?rest98; (case hy98 => (intro w hSw; (try dsimp only at hSw); go_simp <;> with_reducible rfl)); simp only [List.getElem_toArray, List.getElem_cons_succ, List.getElem_cons_zero, Act.put, List.setIfInBounds_toArray, List.set_cons_zero, List.set_cons_succ]))
          refine wpAnyH_done (by kernel_rfl) ?_ _
          go_wp2_with fail
          go_ret
          exact ⟨rfl, C5.out.trans C8.out⟩
    · obtain ⟨hcc, rfl⟩ := hno hok
      have Hok := box hok
      clear hyes hno hok
      have JX := box (heap_old w3 (.cells zeroA 33) J3.out)
      have CX := box (C3.out.alloc (.cells zeroA 33))
      have X3 := box (heap_new w3 (.cells zeroA 33))
      cases hgB : groupB g
      · have hc' : c = 11 := by rw [hcc, hgB]; rfl
        clear hcc
        subst hc'
        rw [hgB] at hgr
        go_wp2_with fail
        refine (hgr.out _).mono ?_
        rintro e w4 ⟨rfl, rfl⟩
        go_wp2_with fail
        refine (same_zero _).mono ?_
        rintro e w9 ⟨rfl, hc9⟩
        have C9 := box (CX.out.trans hc9)
        clear hc9
        go_wp2_with fail
        go_ret
        exact ⟨rfl, C9.out⟩
      · have hc' : c = 1 := by rw [hcc, hgB]; rfl
        clear hcc
        subst hc'
        rw [hgB] at hgr
        have hrr := box (rRight_any m (.slice ka m.keys.length kcap) (w3.alloc (.cells zeroA 33)) (Hst.out.calm CX.out) Hkz.out.1 ⟨Hz.out.2.1, Hz.out.2.2.1, Hz.out.1⟩)
        have c0 := cell_of JX.out 0
        have c1 := cell_of JX.out 1
        have c2 := cell_of JX.out 2
        have c3 := cell_of JX.out 3
        have c4 := cell_of JX.out 4
        have c5 := cell_of JX.out 5
        have c6 := cell_of JX.out 6
        have c7 := cell_of JX.out 7
        have c8 := cell_of JX.out 8
        have c9 := cell_of JX.out 9
        have hlt := heap_lt JX.out
        go_wp2_with fail
        refine (hgr.out _).mono ?_
        rintro e w4 ⟨rfl, rfl⟩
        go_wp2_with fail
        refine hrr.out.mono ?_
        by_cases hR : RightP m
        · rw [decide_eq_true hR]
          rintro e w4 ⟨rfl, hc4⟩
          have J4 := box (heap_calm hc4 JX.out)
          have X4 := box (heap_calm hc4 X3.out)
          have CX := box (CX.out.trans hc4)
          clear hc4 c0 c1 c2 c3 c4 c5 c6 c7 c8 c9 hlt hrr
          have z0 := cell_of X4.out 0
          have z1 := cell_of X4.out 1
          have z2 := cell_of X4.out 2
          have z3 := cell_of X4.out 3
          have z4 := cell_of X4.out 4
          have z5 := cell_of X4.out 5
          have z6 := cell_of X4.out 6
          have z7 := cell_of X4.out 7
          have z8 := cell_of X4.out 8
          have z9 := cell_of X4.out 9
          have hlz := heap_lt X4.out
          have hlt := heap_lt J4.out
          have Hno := box (show (m.kind = 1 ∨ m.kind = 3) → timeB id = true → timeB now = true → False from fun h1 h2 h3 => Hok.out ⟨hgB, hR, h1, h2, h3⟩)
          obtain ⟨kd, hkd⟩ : ∃ kd, m.kind = kd := ⟨_, rfl⟩
          have k0 : w4.cell? ⟨W.heap.size, 0, none⟩ = some (.int .i64 kd) := by rw [← hkd]; exact cell_of J4.out 0
          rw [hkd] at Hno
          clear hkd
          by_cases hk : kd = 1 ∨ kd = 3
          · have Hno := box (Hno.out hk)
            cases htid : timeB id
            · rcases hk with rfl | rfl
              all_goals
                go_wp2_with fail
                refine (small_any id _).mono ?_
                rw [htid]
                rintro e w5 ⟨rfl, rfl⟩
                go_wp2_with fail
                refine (same_zero _).mono ?_
                rintro e w9 ⟨rfl, hc9⟩
                have C9 := box (CX.out.trans hc9)
                clear hc9
                go_wp2_with fail
                go_ret
                exact ⟨rfl, C9.out⟩
            · have htn : timeB now = false := by
                cases h : timeB now
                · rfl
                · exact (Hno.out htid h).elim
              rcases hk with rfl | rfl
              all_goals
                go_wp2_with fail
                refine (small_any id _).mono ?_
                rw [htid]
                rintro e w5 ⟨rfl, rfl⟩
                go_wp2_with fail
                refine (small_any now _).mono ?_
                rw [htn]
                rintro e w5 ⟨rfl, rfl⟩
                go_wp2_with fail
                refine (same_zero _).mono ?_
                rintro e w9 ⟨rfl, hc9⟩
                have C9 := box (CX.out.trans hc9)
                clear hc9
                go_wp2_with fail
                go_ret
                exact ⟨rfl, C9.out⟩
          · have e1 : (kd == 1) = false := beq_eq_false_iff_ne.2 (fun e => hk (.inl e))
            have e3 : (kd == 3) = false := beq_eq_false_iff_ne.2 (fun e => hk (.inr e))
            have f1 : (kd != 1) = true := by rw [bne, e1]; rfl
            have f3 : (kd != 3) = true := by rw [bne, e3]; rfl
            clear hk
            go_wp2_with fail
            refine (same_zero _).mono ?_
            rintro e w9 ⟨rfl, hc9⟩
            have C9 := box (CX.out.trans hc9)
            clear hc9
            go_wp2_with fail
            go_ret
            exact ⟨rfl, C9.out⟩
        · rw [decide_eq_false hR]
          rintro e w4 ⟨rfl, hc4⟩
          have X4 := box (heap_calm hc4 X3.out)
          have CX := box (CX.out.trans hc4)
          clear hc4 c0 c1 c2 c3 c4 c5 c6 c7 c8 c9 hlt hrr
          have z0 := cell_of X4.out 0
          have z1 := cell_of X4.out 1
          have z2 := cell_of X4.out 2
          have z3 := cell_of X4.out 3
          have z4 := cell_of X4.out 4
          have z5 := cell_of X4.out 5
          have z6 := cell_of X4.out 6
          have z7 := cell_of X4.out 7
          have z8 := cell_of X4.out 8
          have z9 := cell_of X4.out 9
          have hlz := heap_lt X4.out
          go_wp2_with fail
          refine (same_zero _).mono ?_
          rintro e w9 ⟨rfl, hc9⟩
          have C9 := box (CX.out.trans hc9)
          clear hc9
          go_wp2_with fail
          go_ret
          exact ⟨rfl, C9.out⟩
theorem own : ownKnob Try.prog.godebug = none := by kernel_rfl
theorem laidOut : laidOutB Try.prog = true := by kernel_rfl
set_option maxRecDepth 100000 in
set_option linter.unusedVariables false in
theorem lifted (os : Os) (started : os.Started) (H : Type) (enc : TypeId × Value → H) :
    ReturnsInHanded {} Try.checked os 4 .any (Rows.levelAgainSpec.pre6 enc Try.prog Try.f4 Rows.levelAgainRow.domain false) (Rows.levelAgainSpec.post enc Try.prog Try.f4 false true false false) := by
  refine returnsInHanded_of_change_sized (C := Try.checked) own started (by kernel_rfl) Try.func4
    (ChangeSpec.witness6 (enc := enc) (C := Try.checked) false ⟨#[], #[.agg #[.int .i64 0, .int .i64 0, .int .i64 0, .int .i64 0, .int .i64 0, .int .i64 0, .string ⟨#[]⟩, .string ⟨#[]⟩, .string ⟨#[]⟩, .slice none 0 0], .string ⟨#[]⟩, .agg #[.int .i64 0, .int .i64 0]], []⟩ 8 (by kernel_rfl) (by kernel_rfl) (by kernel_rfl) (by kernel_rfl)) ?_
  intro W base args ds gs before hval0 hW hcnd hsz0 _
  have hsz : (DataW.weightsEach Try.prog (Try.f4.params.toList ++ []) (ds ++ gs)).all (· ≤ reachBytes) = true := hsz0
  clear hsz0
  have hval : ∀ (j : Nat) t v, Try.f4.params[j]? = some t → args[j]? = some v → Value.okWide Try.prog W .any base t v := hval0
  have hW' := hW
  obtain ⟨p, q, hA0, hV, rfl, hfz, hnd⟩ := hW
  have hA : DataW.TrodAll enc Try.prog W 0 (fun _ => true) true Try.f4.params.toList args.toList ds p := hA0
  rw [Try.params4] at hA hval hsz
  obtain ⟨v0, vs0, d0, ds0, p0, q0, hargs, rfl, rfl, h0, r0'⟩ := trodAll_cons hA
  obtain ⟨v1, vs1, d1, ds1, p1, q1, rfl, rfl, rfl, h1, r1'⟩ := trodAll_cons r0'
  obtain ⟨v2, vs2, d2, ds2, p2, q2, rfl, rfl, rfl, h2, r2'⟩ := trodAll_cons r1'
  obtain ⟨rfl, rfl, rfl⟩ := trodAll_nil r2'
  obtain rfl : args = #[v0, v1, v2] := by cases args; simp_all
  obtain ⟨rfl, rfl⟩ := trodVars_none hV
  clear hA0 hval0
  have wt0 := fun n hn => (by simpa using List.all_eq_true.1 hsz n (DataW.weights_mem_each (j := 0) rfl rfl n hn) : n ≤ reachBytes)
  have wt1 := fun n hn => (by simpa using List.all_eq_true.1 hsz n (DataW.weights_mem_each (j := 1) rfl rfl n hn) : n ≤ reachBytes)
  have wt2 := fun n hn => (by simpa using List.all_eq_true.1 hsz n (DataW.weights_mem_each (j := 2) rfl rfl n hn) : n ≤ reachBytes)
  have hlt : ∀ x ∈ p0 ++ (p1 ++ (p2 ++ [])), x.block < W.heap.size := fun x hx => by have := hW'.lt x (by simpa using hx); simpa using this
  obtain ⟨y0, e0, r0⟩ := msg_arg (struct_shape Try.underlying33 (hval 0 33 v0 rfl rfl)) ((opens_msg).arg h0)
  subst e0
  obtain ⟨s1, e1, _, _, z1⟩ := Go.ChangeMaps.open_string Try.underlying9 (hval 1 9 v1 rfl rfl) h1
  subst e1
  obtain ⟨y2, e2, r2⟩ := pair_arg (array_shape Try.underlying38 (hval 2 38 v2 rfl rfl)) ((opens_pair Try.underlying38 Try.underlying3 (by kernel_rfl) (by kernel_rfl)).arg h2)
  subst e2
  refine (walk W y0 r0 s1 z1 y2 r2).mono fun e W' ⟨he, hg⟩ => ?_
  subst he
  refine ⟨_, rfl, _, _, _, [] ++ [], p0 ++ (p1 ++ (p2 ++ [])), [], hW', ?_, ?_, ?_, hg.frame _, fun h => by cases h⟩
  · exact trodAll_mk1 (shut_bool Try.underlying4 true)
  · exact trodAll_cons_mk (Below.trod laidOut (by kernel_rfl) (of_decide_eq_true (by kernel_rfl)) h0 hg (fun x hx => hlt x (by simp [hx]))) (trodAll_cons_mk (Below.trod laidOut (by kernel_rfl) (of_decide_eq_true (by kernel_rfl)) h1 hg (fun x hx => hlt x (by simp [hx]))) (trodAll_cons_mk (Below.trod laidOut (by kernel_rfl) (of_decide_eq_true (by kernel_rfl)) h2 hg (fun x hx => hlt x (by simp [hx]))) (trodAll_mk0)))
  · exact rfl

theorem over : Rows.levelAgainRow.holds Try.pinned (OpenSpec.ofChange Rows.levelAgainSpec) :=
  OpenClaim.holds_of_wide 4 Try.f4 rfl rfl rfl rfl rfl rfl rfl ⟨rfl, rfl, rfl, rfl, rfl⟩ rfl rfl rfl rfl rfl (by kernel_rfl) Try.func4 (by kernel_rfl)
    (of_decide_eq_true (by kernel_rfl)) (by unfold Func.isWrapper; first | (rw [if_pos (by decide +kernel)]; kernel_rfl) | (rw [if_neg (by decide +kernel)]; exact ⟨rfl, rfl⟩))
    (fun os started H enc _ => lifted os started H enc)

theorem proved : Rows.LevelAgainSaid := over
#print axioms proved
end Go.Proofs.Ytofffmnkoelifaa.lagain
