/- Layer 6: messages, scheduled ones and deliveries that may be; copies. -/
import Derived.Test.YtofffmnkoelifaaRows
import Derived.WalkKit
import Derived.ProofKit
import Derived.OpenShut
import Derived.Handy
import Derived.Deep.LoopGhost
import Derived.Lib.Hide
import Derived.Lib.Strings
import Derived.SizedLaws
import Derived.Deep.Slices
import Derived.Shelf.SlIter.Nil
import Derived.Ground.GgzProg
import Derived.Shelf.SortM.Plain
import Derived.Shelf.SortM.SortNone
import Derived.Ground.SlgmProg
import Derived.Test.YtofffmnkoelifaaProg
import Derived.Shelf.Strings.Builder1
import Derived.Shelf.Strings.Builder2
import Derived.Shelf.Small.Bits
import Derived.Shelf.Small.Wraps
import Derived.Shelf.Strings.BuilderF
import Derived.Shelf.Strings.BuilderK
import Derived.Shelf.Strings.Builder2Cap
import Derived.Shelf.Strconv.Itoa0
import Derived.Shelf.Sort.Plain
import Derived.Shelf.GgClosure.StringsIndexFunc
import Derived.Ground.GgwProg
import Derived.Shelf.GgClosure.StringsIndexFuncTop
import Derived.Shelf.GgClosure.StringsRunes
import Derived.Shelf.Strings.Prefix
import Derived.Shelf.Bits.Mul64
import Derived.Shelf.Strings.Repeat
import Derived.Shelf.Strings.BuilderCap
import Derived.Shelf.Slices.Equal
import Derived.Ground.Names2Prog
import Derived.Shelf.Slices.Clone
import Derived.Shelf.Slices.CompactS
import Derived.Shelf.Slices.SearchI
import Derived.Shelf.Slices.Cells
import Derived.Shelf.Slices.In.SortNone
import Derived.Shelf.Slices.Empties2
import Derived.Ground.SlgnProg
import Derived.Shelf.SlicesE.Equal
import Derived.Shelf.SlicesE.Compact
import Derived.Ground.SlgfProg
import Derived.Shelf.SlicesE.IndexFunc
import Derived.Shelf.SlicesE.DeleteFunc
import Derived.RangeFuncBox
import Derived.RangeFuncLeaves
import Derived.Shelf.Abstract
import Derived.OwnWalkIn
import Derived.TacticsInMore
import Derived.LoopNIn
import Derived.LoopIn
import Derived.Maps.AppendAt
import Derived.Lib.SlicesCompact
import Derived.Deep.QuietTactic
import Derived.BigQuiet
import Derived.Laws.ResultCell
import Derived.Laws.Rows
import Derived.Test.YtofffmnkoelifaaPk7
namespace Go.Proofs.Ytofffmnkoelifaa.rc
open Go.ChangeShapes Go.WideShapes Go.ChangeAt Go.RowKit Go.Shelf
open Go.Proofs.Ytofffmnkoelifaa.nm Go.Proofs.Ytofffmnkoelifaa.vs

/-- May it be? (Kinds 1, 2, 3.) -/
def Right3 (m : MsgS) : Prop := numsB m = true ∧ Carries m ∧ (m.kind = 1 → m.due = 0 ∧ m.ref = 0)
instance (m : MsgS) : Decidable (Right3 m) := by unfold Right3; exact inferInstance
set_option maxRecDepth 100000 in
set_option maxHeartbeats 4000000 in
theorem Right3_any (m : MsgS) (kv : Value) (w : World) (hk : StrsAt w kv m.keys) (hs : ∀ s ∈ m.keys, s.size ≤ maxLen) (h3 : m.kind = 1 ∨ m.kind = 2 ∨ m.kind = 3) :
    Calls Try.prog 41 #[.agg (msgA m kv)] w fun e w' => e = .returned (.bool (decide (Right3 m))) ∧ Calm w w' := by
  have hcar := box (fun W (hW : Calm w W) => carries_any m kv W (hk.calm hW) hs)
  clear hk hs
  obtain ⟨kd, q, du, rt, rf, bn, tp, tg, bd, ks⟩ := m
  simp only at h3
  have Hn := box (heap_new w (.cells (msgA ⟨kd, q, du, rt, rf, bn, tp, tg, bd, ks⟩ kv) 33))
  have H0 := box ((Calm.refl w).alloc (.cells (msgA ⟨kd, q, du, rt, rf, bn, tp, tg, bd, ks⟩ kv) 33))
  have hnum := box (nums_any (w.heap.size + 1) du rf bn ((w.alloc (.cells (msgA ⟨kd, q, du, rt, rf, bn, tp, tg, bd, ks⟩ kv) 33)).alloc (.cells #[.int .i64 du, .int .i64 rf, .int .i64 bn] 3)) (by
    have := heap_new (w.alloc (.cells (msgA ⟨kd, q, du, rt, rf, bn, tp, tg, bd, ks⟩ kv) 33)) (.cells #[.int .i64 du, .int .i64 rf, .int .i64 bn] 3)
    rwa [World.size_alloc] at this))
  have H1 := box (H0.out.trans ((Calm.refl _).alloc (.cells #[.int .i64 du, .int .i64 rf, .int .i64 bn] 3)))
  have J1 := box (heap_calm ((Calm.refl _).alloc (.cells #[.int .i64 du, .int .i64 rf, .int .i64 bn] 3)) Hn.out)
  go_enter Try.func41, Try.ntmps41
  go_wp2_with fail
  refine hnum.out.mono ?_
  rintro e w1 ⟨rfl, hc1⟩
  have H2 := box (H1.out.trans hc1)
  have J2 := box (heap_calm hc1 J1.out)
  clear hc1
  have c0 := cell_of J2.out 0
  have c1 := cell_of J2.out 1
  have c2 := cell_of J2.out 2
  have c3 := cell_of J2.out 3
  have c4 := cell_of J2.out 4
  have c5 := cell_of J2.out 5
  have c6 := cell_of J2.out 6
  have c7 := cell_of J2.out 7
  have c8 := cell_of J2.out 8
  have c9 := cell_of J2.out 9
  have hlt := heap_lt J2.out
  cases hnb : (numB du && numB rf && numB bn)
  · go_wp2_with fail
    go_ret
    exact ⟨ret_bool (decide_eq_false (fun h => by have := h.1; unfold numsB at this; simp only at this; rw [hnb] at this; cases this)).symm, H2.out⟩
  · rcases h3 with rfl | rfl | rfl
    · by_cases hcr : Carries ⟨1, q, du, rt, rf, bn, tp, tg, bd, ks⟩
      · go_wp2_with fail
        refine (hcar.out _ H2.out).mono ?_
        rw [decide_eq_true hcr]
        rintro e w3 ⟨rfl, hc3⟩
        have H3 := box (H2.out.trans hc3)
        have J3 := box (heap_calm hc3 J2.out)
        clear hc3 c0 c1 c2 c3 c4 c5 c6 c7 c8 c9 hlt
        have d2 := cell_of J3.out 2
        have d4 := cell_of J3.out 4
        have hlt := heap_lt J3.out
        have Hcr := box hcr
        clear hcr
        by_cases hd : du = 0
        · subst hd
          by_cases hf : rf = 0
          · subst hf
            go_wp2_with fail
            go_ret
            exact ⟨ret_bool (decide_eq_true (show Right3 ⟨1, q, 0, rt, 0, bn, tp, tg, bd, ks⟩ from ⟨hnb, Hcr.out, fun _ => ⟨rfl, rfl⟩⟩)).symm, H3.out⟩
          · have hf' : (rf == 0) = false := beq_eq_false_iff_ne.2 hf
            go_wp2_with fail
            go_ret
            exact ⟨ret_bool (decide_eq_false (fun h => hf (h.2.2 rfl).2)).symm, H3.out⟩
        · have hd' : (du == 0) = false := beq_eq_false_iff_ne.2 hd
          go_wp2_with fail
          go_ret
          exact ⟨ret_bool (decide_eq_false (fun h => hd (h.2.2 rfl).1)).symm, H3.out⟩
      · go_wp2_with fail
        refine (hcar.out _ H2.out).mono ?_
        rw [decide_eq_false hcr]
        rintro e w3 ⟨rfl, hc3⟩
        have H3 := box (H2.out.trans hc3)
        clear hc3
        go_wp2_with fail
        go_ret
        exact ⟨ret_bool (decide_eq_false (fun h => hcr h.2.1)).symm, H3.out⟩
    · have hiff : decide (Carries ⟨2, q, du, rt, rf, bn, tp, tg, bd, ks⟩) = decide (Right3 ⟨2, q, du, rt, rf, bn, tp, tg, bd, ks⟩) := decide_eq_decide.2 ⟨fun h => ⟨hnb, h, fun e => by cases e⟩, fun h => h.2.1⟩
      go_wp2_with fail
      refine (hcar.out _ H2.out).mono ?_
      rw [hiff]
      rintro e w3 ⟨rfl, hc3⟩
      have H3 := box (H2.out.trans hc3)
      clear hc3
      go_wp2_with fail
      go_ret
      exact ⟨rfl, H3.out⟩
    · have hiff : decide (Carries ⟨3, q, du, rt, rf, bn, tp, tg, bd, ks⟩) = decide (Right3 ⟨3, q, du, rt, rf, bn, tp, tg, bd, ks⟩) := decide_eq_decide.2 ⟨fun h => ⟨hnb, h, fun e => by cases e⟩, fun h => h.2.1⟩
      go_wp2_with fail
      refine (hcar.out _ H2.out).mono ?_
      rw [hiff]
      rintro e w3 ⟨rfl, hc3⟩
      have H3 := box (H2.out.trans hc3)
      clear hc3
      go_wp2_with fail
      go_ret
      exact ⟨rfl, H3.out⟩
theorem addr_add (b j : Nat) : (⟨b, 0, none⟩ : Addr).add j = ⟨b, j, none⟩ := by unfold Addr.add; split <;> simp_all
theorem strs_own {w : World} {base : Nat} {v : Value} {l : List ByteArray} (h : w.ownsRow base 9 1 v l.length (l.map Value.string)) : StrsAt w v l := by
  rcases h.2 with ⟨rfl, hn⟩ | ⟨g, cap, cur, rfl, hb, hg, hnc, hcm, hcs, htake⟩
  · exact .inl ⟨List.eq_nil_of_length_eq_zero hn, none, 0, rfl⟩
  · refine .inr ⟨g, 0, cap, rfl, fun k hk => ?_⟩
    have := h.cells (g := g) rfl k (.string l[k]) (by simp [hk])
    rw [addr_add] at this
    rw [Nat.zero_add, List.getD_eq_getElem?_getD, List.getElem?_eq_getElem hk]
    exact this
theorem own_from {w : World} {base n size : Nat} {v : Value} {e : TypeId} {xs : List Value} (h : w.ownsRow base e size v n xs) : ∀ a m c, v = .slice (some a) m c → 0 < m → base ≤ a.block := fun a m c hv hm => by
  rcases h.2 with ⟨rfl, hn⟩ | ⟨g, cap, cur, rfl, hb, _⟩
  · cases hv
  · cases hv; exact hb
/-- A copy has keys of its own. -/
theorem clone_any (v : Value) (l : List ByteArray) (w : World) (h : StrsAt w v l) (hl : l.length ≤ 1000000) :
    Calls Try.prog 61 #[v] w fun e w' => ∃ v', e = .returned v' ∧ StrsAt w' v' l ∧ (∀ a n c, v' = .slice (some a) n c → 0 < n → w.heap.size ≤ a.block) ∧ Calm w w' := by
  rcases h with ⟨rfl, a, cap, rfl⟩ | ⟨b, off, cap, rfl, hc⟩
  · cases a with
    | none => exact (Try.slices_Clone_string_nil 0 cap w).mono fun e w' ⟨he, hw⟩ => ⟨_, he, .inl ⟨rfl, _, _, rfl⟩, (fun _ _ _ e => by cases e), by rw [hw]; exact Calm.refl _⟩
    | some a => exact (Try.slices_Clone_string_zero a cap w).mono fun e w' ⟨v', he, hr, _, hb⟩ => ⟨v', he, strs_own (l := []) hr, own_from hr, hb⟩
  · refine (Try.slices_Clone_string b off l.length cap l w (Nat.le_refl _) (by omega) (fun j hj => hc j hj)).mono fun e w' ⟨v', he, hr, _, hb⟩ => ⟨v', he, ?_, own_from hr, hb⟩
    rw [List.take_length] at hr
    exact strs_own hr
theorem calm_setCell {a w : World} (h : Calm a w) {p : Addr} (hp : a.heap.size ≤ p.block) (u : Value) : Calm a (w.setCell p u) :=
  ((Keeps.of_calm (F := fun b => a.heap.size ≤ b) h).setCell (.inr hp) u).below (Nat.le_refl _) (fun _ h => h)
theorem list10 (l : List Value) (h : l.length = 10) : ∃ a0 a1 a2 a3 a4 a5 a6 a7 a8 a9, l = [a0, a1, a2, a3, a4, a5, a6, a7, a8, a9] := by
  match l, h with
  | [a0, a1, a2, a3, a4, a5, a6, a7, a8, a9], _ => exact ⟨_, _, _, _, _, _, _, _, _, _, rfl⟩
theorem put_msg {w : World} {b : Nat} {c : Array Value} {T : TypeId} (h : w.heap[b]? = some (.cells c T (0, 0))) (hc : c.size = 10) (u0 u1 u2 u3 u4 u5 u6 u7 u8 u9 : Value) :
    ((((((((((w.setCell ⟨b, 0, none⟩ u0).setCell ⟨b, 1, none⟩ u1).setCell ⟨b, 2, none⟩ u2).setCell ⟨b, 3, none⟩ u3).setCell ⟨b, 4, none⟩ u4).setCell ⟨b, 5, none⟩ u5).setCell ⟨b, 6, none⟩ u6).setCell ⟨b, 7, none⟩ u7).setCell ⟨b, 8, none⟩ u8).setCell ⟨b, 9, none⟩ u9).heap[b]? = some (.cells #[u0, u1, u2, u3, u4, u5, u6, u7, u8, u9] T (0, 0)) := by
  have h10 := heap_set (heap_set (heap_set (heap_set (heap_set (heap_set (heap_set (heap_set (heap_set (heap_set (h) 0 u0) 1 u1) 2 u2) 3 u3) 4 u4) 5 u5) 6 u6) 7 u7) 8 u8) 9 u9
  obtain ⟨l⟩ := c
  obtain ⟨a0, a1, a2, a3, a4, a5, a6, a7, a8, a9, rfl⟩ := list10 l hc
  simp only [List.setIfInBounds_toArray, List.set_cons_zero, List.set_cons_succ] at h10
  exact h10
theorem keeps_put_msg {F : Nat → Prop} {a w : World} (h : Keeps F a w) {b : Nat} (hb : F b) (u0 u1 u2 u3 u4 u5 u6 u7 u8 u9 : Value) : Keeps F a ((((((((((w.setCell ⟨b, 0, none⟩ u0).setCell ⟨b, 1, none⟩ u1).setCell ⟨b, 2, none⟩ u2).setCell ⟨b, 3, none⟩ u3).setCell ⟨b, 4, none⟩ u4).setCell ⟨b, 5, none⟩ u5).setCell ⟨b, 6, none⟩ u6).setCell ⟨b, 7, none⟩ u7).setCell ⟨b, 8, none⟩ u8).setCell ⟨b, 9, none⟩ u9) :=
  Keeps.setCell (Keeps.setCell (Keeps.setCell (Keeps.setCell (Keeps.setCell (Keeps.setCell (Keeps.setCell (Keeps.setCell (Keeps.setCell (Keeps.setCell (h) (p := ⟨b, 0, none⟩) (.inl hb) u0) (p := ⟨b, 1, none⟩) (.inl hb) u1) (p := ⟨b, 2, none⟩) (.inl hb) u2) (p := ⟨b, 3, none⟩) (.inl hb) u3) (p := ⟨b, 4, none⟩) (.inl hb) u4) (p := ⟨b, 5, none⟩) (.inl hb) u5) (p := ⟨b, 6, none⟩) (.inl hb) u6) (p := ⟨b, 7, none⟩) (.inl hb) u7) (p := ⟨b, 8, none⟩) (.inl hb) u8) (p := ⟨b, 9, none⟩) (.inl hb) u9
theorem strs_keep {F : Nat → Prop} {w w' : World} {v : Value} {l : List ByteArray} (h : StrsAt w v l) (k : Keeps F w w') (hF : ∀ a n c, v = .slice (some a) n c → 0 < n → ¬ F a.block) : StrsAt w' v l := by
  rcases h with h | ⟨b, off, cap, rfl, hc⟩
  · exact .inl h
  · refine .inr ⟨b, off, cap, rfl, fun j hj => ?_⟩
    have h1 := hc j hj
    have hlt := World.block_lt_of_cell? w ⟨b, off + j, none⟩ h1
    rw [World.cell?_of_block (w := w) (a := ⟨b, off + j, none⟩) (k.block b hlt (hF _ _ _ rfl (by omega)))]
    exact h1
theorem calm_put_msg {a w : World} (h : Calm a w) {b : Nat} (hb : a.heap.size ≤ b) (u0 u1 u2 u3 u4 u5 u6 u7 u8 u9 : Value) : Calm a ((((((((((w.setCell ⟨b, 0, none⟩ u0).setCell ⟨b, 1, none⟩ u1).setCell ⟨b, 2, none⟩ u2).setCell ⟨b, 3, none⟩ u3).setCell ⟨b, 4, none⟩ u4).setCell ⟨b, 5, none⟩ u5).setCell ⟨b, 6, none⟩ u6).setCell ⟨b, 7, none⟩ u7).setCell ⟨b, 8, none⟩ u8).setCell ⟨b, 9, none⟩ u9) :=
  calm_setCell (calm_setCell (calm_setCell (calm_setCell (calm_setCell (calm_setCell (calm_setCell (calm_setCell (calm_setCell (calm_setCell (h) (p := ⟨b, 0, none⟩) hb u0) (p := ⟨b, 1, none⟩) hb u1) (p := ⟨b, 2, none⟩) hb u2) (p := ⟨b, 3, none⟩) hb u3) (p := ⟨b, 4, none⟩) hb u4) (p := ⟨b, 5, none⟩) hb u5) (p := ⟨b, 6, none⟩) hb u6) (p := ⟨b, 7, none⟩) hb u7) (p := ⟨b, 8, none⟩) hb u8) (p := ⟨b, 9, none⟩) hb u9
theorem msgSize : (Try.prog.info? 33).map (·.size) = some 10 := by kernel_rfl
set_option maxRecDepth 100000 in
theorem Copy_any (m : MsgS) (kv : Value) (w : World) (hk : StrsAt w kv m.keys) (hl : m.keys.length ≤ 1000000) :
    Calls Try.prog 28 #[.agg (msgA m kv)] w fun e w' => ∃ kv', e = .returned (.agg (msgA m kv')) ∧ StrsAt w' kv' m.keys ∧ (∀ a n c, kv' = .slice (some a) n c → 0 < n → w.heap.size ≤ a.block) ∧ Calm w w' := by
  obtain ⟨kd, q, du, rt, rf, bn, tp, tg, bd, ks⟩ := m
  simp only at hk hl
  have Hk := box hk
  clear hk
  go_enter Try.func28, Try.ntmps28
  have Hn := box (heap_new w (.cells (msgA ⟨kd, q, du, rt, rf, bn, tp, tg, bd, ks⟩ kv) 33))
  have Hz := box (heap_new (w.alloc (.cells (msgA ⟨kd, q, du, rt, rf, bn, tp, tg, bd, ks⟩ kv) 33)) (.cells #[.int .i64 0, .int .i64 0, .int .i64 0, .int .i64 0, .int .i64 0, .int .i64 0, .string ⟨#[]⟩, .string ⟨#[]⟩, .string ⟨#[]⟩, .slice none 0 0] 33))
  have Ha := box (((Calm.refl w).alloc (.cells (msgA ⟨kd, q, du, rt, rf, bn, tp, tg, bd, ks⟩ kv) 33)).alloc (.cells #[.int .i64 0, .int .i64 0, .int .i64 0, .int .i64 0, .int .i64 0, .int .i64 0, .string ⟨#[]⟩, .string ⟨#[]⟩, .string ⟨#[]⟩, .slice none 0 0] 33))
  go_wp2_with fail
  refine (clone_any kv ks _ (Hk.out.calm Ha.out) hl).mono ?_
  rintro e w2 ⟨v', rfl, hv, hvf, hc2⟩
  obtain ⟨va, vcap, rfl, _⟩ := hv.uni
  have Hv := box hv
  have Hvf := box hvf
  clear hvf
  have J0 := box (heap_calm hc2 (heap_old _ _ Hn.out))
  have Jz := box (heap_calm hc2 Hz.out)
  simp only [World.size_alloc] at Jz
  have c0 := cell_of J0.out 0
  have c1 := cell_of J0.out 1
  have c2 := cell_of J0.out 2
  have c3 := cell_of J0.out 3
  have c4 := cell_of J0.out 4
  have c5 := cell_of J0.out 5
  have c6 := cell_of J0.out 6
  have c7 := cell_of J0.out 7
  have c8 := cell_of J0.out 8
  have c9 := cell_of J0.out 9
  have z0 := cell_of Jz.out 0
  have z1 := cell_of Jz.out 1
  have z2 := cell_of Jz.out 2
  have z3 := cell_of Jz.out 3
  have z4 := cell_of Jz.out 4
  have z5 := cell_of Jz.out 5
  have z6 := cell_of Jz.out 6
  have z7 := cell_of Jz.out 7
  have z8 := cell_of Jz.out 8
  have z9 := cell_of Jz.out 9
  have f0 := free_of Jz.out 0
  have f1 := free_of Jz.out 1
  have f2 := free_of Jz.out 2
  have f3 := free_of Jz.out 3
  have f4 := free_of Jz.out 4
  have f5 := free_of Jz.out 5
  have f6 := free_of Jz.out 6
  have f7 := free_of Jz.out 7
  have f8 := free_of Jz.out 8
  have f9 := free_of Jz.out 9
  have hlz := heap_lt Jz.out
  have g9 := free_of J0.out 9
  have hlt := heap_lt J0.out
  have Hv := box hv
  have Hc2 := box (Ha.out.trans hc2)
  clear hv hc2
  have hfin := put_msg (w := w2.setCell ⟨w.heap.size, 9, none⟩ (.slice va ks.length vcap)) (b := w.heap.size + 1) ((heap_set_other (by omega) 9 _).trans Jz.out) rfl (.int .i64 kd) (.int .i64 q) (.int .i64 du) (.int .i64 rt) (.int .i64 rf) (.int .i64 bn) (.string tp) (.string tg) (.string bd) (.slice va ks.length vcap)
  have hcal := calm_put_msg (calm_setCell Hc2.out (p := ⟨w.heap.size, 9, none⟩) (Nat.le_refl _) (.slice va ks.length vcap)) (b := w.heap.size + 1) (by omega) (.int .i64 kd) (.int .i64 q) (.int .i64 du) (.int .i64 rt) (.int .i64 rf) (.int .i64 bn) (.string tp) (.string tg) (.string bd) (.slice va ks.length vcap)
  have hkp := keeps_put_msg ((Keeps.refl (fun b => b = w.heap.size ∨ b = w.heap.size + 1) w2).setCell (p := ⟨w.heap.size, 9, none⟩) (.inl (.inl rfl)) (.slice va ks.length vcap)) (b := w.heap.size + 1) (.inr rfl) (.int .i64 kd) (.int .i64 q) (.int .i64 du) (.int .i64 rt) (.int .i64 rf) (.int .i64 bn) (.string tp) (.string tg) (.string bd) (.slice va ks.length vcap)
  have hst := strs_keep Hv.out hkp (fun a n c e hn hf => by
    have := Hvf.out a n c e hn
    simp only [World.size_alloc] at this
    omega)
  have Hst := box hst
  clear hkp hst
  have Hfin := box hfin
  have Hcal := box hcal
  clear hfin hcal
  go_wp2_with fail
  (try simp only [Exit.inBlock, Exit.then])
  refine bodyPost_ret (results_cell_row rfl _ _ (w.heap.size + 1) _ _ _ _ rfl Hfin.out Try.underlying33 rfl msgSize) rfl ?_
  exact ⟨.slice va ks.length vcap, rfl, Hst.out, (fun a n c e hn => by have := Hvf.out a n c e hn; simp only [World.size_alloc] at this; omega), Hcal.out⟩
end Go.Proofs.Ytofffmnkoelifaa.rc

/- Layer 6: a record as an argument; what is too great to be played; the example. -/
namespace Go.Proofs.Ytofffmnkoelifaa.rc
open Go.ChangeShapes Go.WideShapes Go.ChangeAt Go.RowKit Go.Shelf
open Go.Proofs.Ytofffmnkoelifaa.nm Go.Proofs.Ytofffmnkoelifaa.vs

/-- A record as an argument. -/
def MsgR : Reads MsgS := fun w cs m => ∃ kv, cs = (msgA m kv).toList ∧ RowsAt StrR 1 w kv m.keys ∧ m.topic.size ≤ maxLen ∧ m.tag.size ≤ maxLen ∧ m.body.size ≤ maxLen ∧ (-9223372036854775808 ≤ m.kind ∧ m.kind ≤ 9223372036854775807) ∧ (-9223372036854775808 ≤ m.retry ∧ m.retry ≤ 9223372036854775807)
set_option maxRecDepth 100000 in
theorem opens_msg : Opens Try.prog 33 MsgR := fun H enc w base sp held fuel cs x h => by
  obtain ⟨xs, n, _, _, hlen, hxl, hg⟩ := DataW.trod_struct Try.underlying33 h
  rw [show Try.prog.cellsOf 33 = 10 by kernel_rfl] at hlen
  match cs, hlen with
  | [c0, c1, c2, c3, c4, c5, c6, c7, c8, c9], _ =>
    have hx : ∀ i, i < xs.length → ∃ y, xs[i]? = some y := fun i hi => ⟨_, List.getElem?_eq_getElem hi⟩
    simp only [List.size_toArray, List.length_cons, List.length_nil] at hxl
    have g0 := hg 0 _ rfl
    have g1 := hg 1 _ rfl
    have g2 := hg 2 _ rfl
    have g3 := hg 3 _ rfl
    have g4 := hg 4 _ rfl
    have g5 := hg 5 _ rfl
    have g6 := hg 6 _ rfl
    have g7 := hg 7 _ rfl
    have g8 := hg 8 _ rfl
    have g9 := hg 9 _ rfl
    clear hg
    rw [List.getElem?_eq_getElem (by omega)] at g0 g1 g2 g3 g4 g5 g6 g7 g8 g9
    obtain ⟨a0, h0, r0, q0⟩ := opens_int Try.underlying3 _ _ _ _ _ _ _ _ _ g0
    obtain ⟨a1, h1, _⟩ := opens_int Try.underlying3 _ _ _ _ _ _ _ _ _ g1
    obtain ⟨a2, h2, _⟩ := opens_int Try.underlying3 _ _ _ _ _ _ _ _ _ g2
    obtain ⟨a3, h3, r3, q3⟩ := opens_int Try.underlying3 _ _ _ _ _ _ _ _ _ g3
    obtain ⟨a4, h4, _⟩ := opens_int Try.underlying3 _ _ _ _ _ _ _ _ _ g4
    obtain ⟨a5, h5, _⟩ := opens_int Try.underlying3 _ _ _ _ _ _ _ _ _ g5
    obtain ⟨a6, h6, r6⟩ := opens_string Try.underlying9 _ _ _ _ _ _ _ _ _ g6
    obtain ⟨a7, h7, r7⟩ := opens_string Try.underlying9 _ _ _ _ _ _ _ _ _ g7
    obtain ⟨a8, h8, r8⟩ := opens_string Try.underlying9 _ _ _ _ _ _ _ _ _ g8
    obtain ⟨a9, kv, h9, r9⟩ := opens_slice (c := 1) Try.underlying31 (by kernel_rfl) (by decide) (opens_string Try.underlying9) _ _ _ _ _ _ _ _ _ g9
    refine ⟨⟨a0, a1, a2, a3, a4, a5, a6, a7, a8, a9⟩, kv, ?_, r9, r6, r7, r8, ⟨r0, q0⟩, r3, q3⟩
    have n1 : Try.prog.cellsOf 3 = 1 := by kernel_rfl
    have n2 : Try.prog.cellsOf 9 = 1 := by kernel_rfl
    have n3 : Try.prog.cellsOf 31 = 1 := by kernel_rfl
    simp [n1, n2, n3] at h0 h1 h2 h3 h4 h5 h6 h7 h8 h9
    subst h0 h1 h2 h3 h4 h5 h6 h7 h8 h9
    rfl
theorem struct_shape {P : Program} {w : World} {r : Reach} {b : Nat} {t : TypeId} {v : Value} {fs : Array Field} (ht : P.underlying t = some (.struct fs)) (h : Value.okWide P w r b t v) : ∃ cs, v = .agg cs := by
  obtain ⟨cs, h1, _⟩ := okWide_struct ht h; exact ⟨cs, h1⟩
/-- A record and its keys' row, as they come in. -/
def MsgIn (w : World) (y : MsgS × Value) : Prop := RowsAt StrR 1 w y.2 y.1.keys ∧ y.1.topic.size ≤ maxLen ∧ y.1.tag.size ≤ maxLen ∧ y.1.body.size ≤ maxLen ∧ (-9223372036854775808 ≤ y.1.kind ∧ y.1.kind ≤ 9223372036854775807) ∧ (-9223372036854775808 ≤ y.1.retry ∧ y.1.retry ≤ 9223372036854775807)
theorem msg_arg {w : World} {v : Value} (hv : ∃ cs, v = .agg cs) (h : ∃ y, MsgR w v.cells.toList y) : ∃ y : MsgS × Value, v = .agg (msgA y.1 y.2) ∧ MsgIn w y := by
  obtain ⟨cs, rfl⟩ := hv
  obtain ⟨y, kv, he, hr⟩ := h
  refine ⟨(y, kv), ?_, hr⟩
  simp only [Value.cells] at he
  rw [Array.toList_inj.1 he]
/-- It is played. -/
def Small (m : MsgS) : Prop := m.body.size ≤ 2000 ∧ m.topic.size ≤ 100 ∧ m.tag.size ≤ 100 ∧ m.keys.length ≤ 10 ∧ ∀ s ∈ m.keys, s.size ≤ 100
def GreatDone (m : MsgS) (w : World) (e : Ending) (w' : World) : Prop := ∃ g, e = .returned (.bool g) ∧ Calm w w' ∧ (g = false → Small m)
set_option maxRecDepth 100000 in
set_option maxHeartbeats 4000000 in
theorem Great_any (b : Nat) (m : MsgS) (kv : Value) (w : World) (h : MsgAt w b m kv) (hk : StrsAt w kv m.keys) (hs : ∀ s ∈ m.keys, s.size ≤ maxLen) (hz : m.body.size ≤ maxLen ∧ m.topic.size ≤ maxLen ∧ m.tag.size ≤ maxLen ∧ m.keys.length ≤ maxLen) :
    Calls Try.prog 16 #[.slice (some ⟨b, 0, none⟩) 1 1] w (GreatDone m w) := by
  obtain ⟨kd, q, du, rt, rf, bn, tp, tg, bd, ks⟩ := m
  simp only at hk hs hz
  obtain ⟨z1, z2, z3, z4⟩ := hz
  obtain ⟨ka, kcap, rfl, hcells⟩ := hk.uni
  have Hc := box hcells
  have Hs := box hs
  unfold maxLen at z1 z2 z3 z4
  have c0 := cell_of h 0
  have c1 := cell_of h 1
  have c2 := cell_of h 2
  have c3 := cell_of h 3
  have c4 := cell_of h 4
  have c5 := cell_of h 5
  have c6 := cell_of h 6
  have c7 := cell_of h 7
  have c8 := cell_of h 8
  have c9 := cell_of h 9
  have hlt := heap_lt h
  have Ha := box ((Calm.refl w).alloc (.cells (msgA ⟨kd, q, du, rt, rf, bn, tp, tg, bd, ks⟩ (.slice ka ks.length kcap)) 33))
  clear h hk hs hcells
  go_enter Try.func16, Try.ntmps16
  go_wp2_with fail
  go_loopw [9] (fun i wr => (i = .int .i64 0 ∧ wr = w) ∨ (i = .int .i64 1 ∧ Calm w wr ∧ Small ⟨kd, q, du, rt, rf, bn, tp, tg, bd, ks⟩)) (fun i _ => 1 - (intOf i).toNat)
  case atStart => exact .inl ⟨rfl, rfl⟩
  case round =>
    rcases hrel with ⟨rfl, rfl⟩ | ⟨rfl, hcal, hsm⟩
    · go_wp2_with fail
      all_goals first | (go_ret; exact ⟨true, rfl, Ha.out, fun h => by cases h⟩) | skip
      go_loopw [38] (fun i wr' => ∃ k : Nat, k ≤ ks.length ∧ i = .int .i64 k ∧ Calm wr wr' ∧ ∀ j (hj : j < k) (hj' : j < ks.length), ks[j].size ≤ 100) (fun i _ => ks.length - (intOf i).toNat)
      case atStart => exact ⟨0, Nat.zero_le _, rfl, Ha.out, fun j hj => absurd hj (Nat.not_lt_zero _)⟩
      case round =>
        obtain ⟨k, hk, rfl, hcal, hall⟩ := hrel
        have HC := box hcal
        have HA := box hall
        clear hcal hall c0 c1 c2 c3 c4 c5 c6 c7 c8 c9 hlt
        by_cases hkl : k < ks.length
        · obtain ⟨kb, koff, rfl, hkb, hkc⟩ := Hc.out k hkl
          have kc := (HC.out.cell (p := ⟨kb, koff + k, none⟩) hkb).trans hkc
          have klt := Nat.lt_of_lt_of_le hkb HC.out.size
          rw [List.getD_eq_getElem?_getD, List.getElem?_eq_getElem hkl] at kc
          simp only [Option.getD_some] at kc
          have HA1 := box (show ks[k].size ≤ 100 → ∀ j (hj : j < k + 1) (hj' : j < ks.length), ks[j].size ≤ 100 from fun h j hj hj' => by
            by_cases e : j = k
            · subst e; exact h
            · exact HA.out j (by omega) hj')
          have hss := Hs.out _ (List.getElem_mem hkl)
          obtain ⟨s, hs⟩ : ∃ s, ks[k] = s := ⟨_, rfl⟩
          rw [hs] at kc HA1 hss
          unfold maxLen at hss
          clear hs hkc
          by_cases h100 : 100 < s.size
          · go_wp2_with fail
            go_ret
            exact ⟨true, rfl, HC.out, fun h => by cases h⟩
          · go_wp2_with fail
            go_roundw
            case rel => exact ⟨k + 1, by omega, by go_num, HC.out, HA1.out (by omega)⟩
            case measure => simp [intOf]; omega
        · obtain rfl : k = ks.length := by omega
          have Hsm := box (show Small ⟨kd, q, du, rt, rf, bn, tp, tg, bd, ks⟩ from ⟨by simp only; omega, by simp only; omega, by simp only; omega, by simp only; omega, fun s hs => by
            obtain ⟨j, hj, rfl⟩ := List.mem_iff_getElem.1 hs
            exact HA.out j hj hj⟩)
          go_wp2_with fail
          go_roundw
          case rel => exact .inr ⟨rfl, HC.out, Hsm.out⟩
          case measure => simp [intOf]
    · go_wp2_with fail
      go_ret
      exact ⟨false, rfl, hcal, fun _ => hsm⟩
end Go.Proofs.Ytofffmnkoelifaa.rc
