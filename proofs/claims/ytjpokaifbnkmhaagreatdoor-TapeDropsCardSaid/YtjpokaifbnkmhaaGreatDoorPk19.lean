/- Lemmas for this claim. -/
import Derived.Laws.ResultCell
import Derived.Laws.Rows
import Derived.Test.YtjpokaifbnkmhaaGreatDoorPk18
namespace Go.Proofs.YtjpokaifbnkmhaaGreatDoor.rc
open Go.ChangeShapes Go.WideShapes Go.ChangeAt Go.RowKit Go.Shelf
open Go.Proofs.YtjpokaifbnkmhaaGreatDoor.nm Go.Proofs.YtjpokaifbnkmhaaGreatDoor.vs
def Right3 (m : MsgS) : Prop := numsB m = true ∧ Carries m ∧ (m.kind = 1 → m.due = 0 ∧ m.ref = 0)
instance (m : MsgS) : Decidable (Right3 m) := by unfold Right3; exact inferInstance
set_option maxRecDepth 100000 in
set_option maxHeartbeats 4000000 in
theorem Right3_any (m : MsgS) (kv : Value) (w : World) (hk : StrsAt w kv m.keys) (hs : ∀ s ∈ m.keys, s.size ≤ maxLen) (h3 : m.kind = 1 ∨ m.kind = 2 ∨ m.kind = 3) :
    Calls Tryz.prog 170 #[.agg (msgA m kv)] w fun e w' => e = .returned (.bool (decide (Right3 m))) ∧ Calm w w' := by
  have hcar := box (fun W (hW : Calm w W) => carries_any m kv W (hk.calm hW) hs)
  clear hk hs
  obtain ⟨kd, q, du, rt, rf, bn, tp, tg, bd, ks⟩ := m
  simp only at h3
  have Hn := box (heap_new w (.cells (msgA ⟨kd, q, du, rt, rf, bn, tp, tg, bd, ks⟩ kv) 62))
  have H0 := box ((Calm.refl w).alloc (.cells (msgA ⟨kd, q, du, rt, rf, bn, tp, tg, bd, ks⟩ kv) 62))
  have hnum := box (nums_any (w.heap.size + 1) du rf bn ((w.alloc (.cells (msgA ⟨kd, q, du, rt, rf, bn, tp, tg, bd, ks⟩ kv) 62)).alloc (.cells #[.int .i64 du, .int .i64 rf, .int .i64 bn] 3)) (by
    have := heap_new (w.alloc (.cells (msgA ⟨kd, q, du, rt, rf, bn, tp, tg, bd, ks⟩ kv) 62)) (.cells #[.int .i64 du, .int .i64 rf, .int .i64 bn] 3)
    rwa [World.size_alloc] at this))
  have H1 := box (H0.out.trans ((Calm.refl _).alloc (.cells #[.int .i64 du, .int .i64 rf, .int .i64 bn] 3)))
  have J1 := box (heap_calm ((Calm.refl _).alloc (.cells #[.int .i64 du, .int .i64 rf, .int .i64 bn] 3)) Hn.out)
  go_enter Tryz.func170, Tryz.ntmps170
  go_wp2_with fail
  refine hnum.out.mono ?_
  rintro e w1 ⟨rfl, hc1⟩
  have H2 := box (H1.out.trans hc1)
  have J2 := box (heap_calm hc1 J1.out)
  clear hc1
  have c0 := cell_of J2.out 0
  have c1 := cell_of J2.out 1
  have c2 := cell_of J2.out 2
  have c3 := cell_of J2.out 3
  have c4 := cell_of J2.out 4
  have c5 := cell_of J2.out 5
  have c6 := cell_of J2.out 6
  have c7 := cell_of J2.out 7
  have c8 := cell_of J2.out 8
  have c9 := cell_of J2.out 9
  have hlt := heap_lt J2.out
  cases hnb : (numB du && numB rf && numB bn)
  · go_wp2_with fail
    go_ret
    exact ⟨ret_bool (decide_eq_false (fun h => by have := h.1; unfold numsB at this; simp only at this; rw [hnb] at this; cases this)).symm, H2.out⟩
  · rcases h3 with rfl | rfl | rfl
    · by_cases hcr : Carries ⟨1, q, du, rt, rf, bn, tp, tg, bd, ks⟩
      · go_wp2_with fail
        refine (hcar.out _ H2.out).mono ?_
        rw [decide_eq_true hcr]
        rintro e w3 ⟨rfl, hc3⟩
        have H3 := box (H2.out.trans hc3)
        have J3 := box (heap_calm hc3 J2.out)
        clear hc3 c0 c1 c2 c3 c4 c5 c6 c7 c8 c9 hlt
        have d2 := cell_of J3.out 2
        have d4 := cell_of J3.out 4
        have hlt := heap_lt J3.out
        have Hcr := box hcr
        clear hcr
        by_cases hd : du = 0
        · subst hd
          by_cases hf : rf = 0
          · subst hf
            go_wp2_with fail
            go_ret
            exact ⟨ret_bool (decide_eq_true (show Right3 ⟨1, q, 0, rt, 0, bn, tp, tg, bd, ks⟩ from ⟨hnb, Hcr.out, fun _ => ⟨rfl, rfl⟩⟩)).symm, H3.out⟩
          · have hf' : (rf == 0) = false := beq_eq_false_iff_ne.2 hf
            go_wp2_with fail
            go_ret
            exact ⟨ret_bool (decide_eq_false (fun h => hf (h.2.2 rfl).2)).symm, H3.out⟩
        · have hd' : (du == 0) = false := beq_eq_false_iff_ne.2 hd
          go_wp2_with fail
          go_ret
          exact ⟨ret_bool (decide_eq_false (fun h => hd (h.2.2 rfl).1)).symm, H3.out⟩
      · go_wp2_with fail
        refine (hcar.out _ H2.out).mono ?_
        rw [decide_eq_false hcr]
        rintro e w3 ⟨rfl, hc3⟩
        have H3 := box (H2.out.trans hc3)
        clear hc3
        go_wp2_with fail
        go_ret
        exact ⟨ret_bool (decide_eq_false (fun h => hcr h.2.1)).symm, H3.out⟩
    · have hiff : decide (Carries ⟨2, q, du, rt, rf, bn, tp, tg, bd, ks⟩) = decide (Right3 ⟨2, q, du, rt, rf, bn, tp, tg, bd, ks⟩) := decide_eq_decide.2 ⟨fun h => ⟨hnb, h, fun e => by cases e⟩, fun h => h.2.1⟩
      go_wp2_with fail
      refine (hcar.out _ H2.out).mono ?_
      rw [hiff]
      rintro e w3 ⟨rfl, hc3⟩
      have H3 := box (H2.out.trans hc3)
      clear hc3
      go_wp2_with fail
      go_ret
      exact ⟨rfl, H3.out⟩
    · have hiff : decide (Carries ⟨3, q, du, rt, rf, bn, tp, tg, bd, ks⟩) = decide (Right3 ⟨3, q, du, rt, rf, bn, tp, tg, bd, ks⟩) := decide_eq_decide.2 ⟨fun h => ⟨hnb, h, fun e => by cases e⟩, fun h => h.2.1⟩
      go_wp2_with fail
      refine (hcar.out _ H2.out).mono ?_
      rw [hiff]
      rintro e w3 ⟨rfl, hc3⟩
      have H3 := box (H2.out.trans hc3)
      clear hc3
      go_wp2_with fail
      go_ret
      exact ⟨rfl, H3.out⟩
theorem addr_add (b j : Nat) : (⟨b, 0, none⟩ : Addr).add j = ⟨b, j, none⟩ := by unfold Addr.add; split <;> simp_all
theorem strs_own {w : World} {base : Nat} {v : Value} {l : List ByteArray} (h : w.ownsRow base 9 1 v l.length (l.map Value.string)) : StrsAt w v l := by
  rcases h.2 with ⟨rfl, hn⟩ | ⟨g, cap, cur, rfl, hb, hg, hnc, hcm, hcs, htake⟩
  · exact .inl ⟨List.eq_nil_of_length_eq_zero hn, none, 0, rfl⟩
  · refine .inr ⟨g, 0, cap, rfl, fun k hk => ?_⟩
    have := h.cells (g := g) rfl k (.string l[k]) (by simp [hk])
    rw [addr_add] at this
    rw [Nat.zero_add, List.getD_eq_getElem?_getD, List.getElem?_eq_getElem hk]
    exact this
theorem own_from {w : World} {base n size : Nat} {v : Value} {e : TypeId} {xs : List Value} (h : w.ownsRow base e size v n xs) : ∀ a m c, v = .slice (some a) m c → 0 < m → base ≤ a.block := fun a m c hv hm => by
  rcases h.2 with ⟨rfl, hn⟩ | ⟨g, cap, cur, rfl, hb, _⟩
  · cases hv
  · cases hv; exact hb
theorem calm_setCell {a w : World} (h : Calm a w) {p : Addr} (hp : a.heap.size ≤ p.block) (u : Value) : Calm a (w.setCell p u) :=
  ((Keeps.of_calm (F := fun b => a.heap.size ≤ b) h).setCell (.inr hp) u).below (Nat.le_refl _) (fun _ h => h)
theorem list10 (l : List Value) (h : l.length = 10) : ∃ a0 a1 a2 a3 a4 a5 a6 a7 a8 a9, l = [a0, a1, a2, a3, a4, a5, a6, a7, a8, a9] := by
  match l, h with
  | [a0, a1, a2, a3, a4, a5, a6, a7, a8, a9], _ => exact ⟨_, _, _, _, _, _, _, _, _, _, rfl⟩
theorem put_msg {w : World} {b : Nat} {c : Array Value} {T : TypeId} (h : w.heap[b]? = some (.cells c T (0, 0))) (hc : c.size = 10) (u0 u1 u2 u3 u4 u5 u6 u7 u8 u9 : Value) :
    ((((((((((w.setCell ⟨b, 0, none⟩ u0).setCell ⟨b, 1, none⟩ u1).setCell ⟨b, 2, none⟩ u2).setCell ⟨b, 3, none⟩ u3).setCell ⟨b, 4, none⟩ u4).setCell ⟨b, 5, none⟩ u5).setCell ⟨b, 6, none⟩ u6).setCell ⟨b, 7, none⟩ u7).setCell ⟨b, 8, none⟩ u8).setCell ⟨b, 9, none⟩ u9).heap[b]? = some (.cells #[u0, u1, u2, u3, u4, u5, u6, u7, u8, u9] T (0, 0)) := by
  have h10 := heap_set (heap_set (heap_set (heap_set (heap_set (heap_set (heap_set (heap_set (heap_set (heap_set (h) 0 u0) 1 u1) 2 u2) 3 u3) 4 u4) 5 u5) 6 u6) 7 u7) 8 u8) 9 u9
  obtain ⟨l⟩ := c
  obtain ⟨a0, a1, a2, a3, a4, a5, a6, a7, a8, a9, rfl⟩ := list10 l hc
  simp only [List.setIfInBounds_toArray, List.set_cons_zero, List.set_cons_succ] at h10
  exact h10
theorem keeps_put_msg {F : Nat → Prop} {a w : World} (h : Keeps F a w) {b : Nat} (hb : F b) (u0 u1 u2 u3 u4 u5 u6 u7 u8 u9 : Value) : Keeps F a ((((((((((w.setCell ⟨b, 0, none⟩ u0).setCell ⟨b, 1, none⟩ u1).setCell ⟨b, 2, none⟩ u2).setCell ⟨b, 3, none⟩ u3).setCell ⟨b, 4, none⟩ u4).setCell ⟨b, 5, none⟩ u5).setCell ⟨b, 6, none⟩ u6).setCell ⟨b, 7, none⟩ u7).setCell ⟨b, 8, none⟩ u8).setCell ⟨b, 9, none⟩ u9) :=
  Keeps.setCell (Keeps.setCell (Keeps.setCell (Keeps.setCell (Keeps.setCell (Keeps.setCell (Keeps.setCell (Keeps.setCell (Keeps.setCell (Keeps.setCell (h) (p := ⟨b, 0, none⟩) (.inl hb) u0) (p := ⟨b, 1, none⟩) (.inl hb) u1) (p := ⟨b, 2, none⟩) (.inl hb) u2) (p := ⟨b, 3, none⟩) (.inl hb) u3) (p := ⟨b, 4, none⟩) (.inl hb) u4) (p := ⟨b, 5, none⟩) (.inl hb) u5) (p := ⟨b, 6, none⟩) (.inl hb) u6) (p := ⟨b, 7, none⟩) (.inl hb) u7) (p := ⟨b, 8, none⟩) (.inl hb) u8) (p := ⟨b, 9, none⟩) (.inl hb) u9
theorem strs_keep {F : Nat → Prop} {w w' : World} {v : Value} {l : List ByteArray} (h : StrsAt w v l) (k : Keeps F w w') (hF : ∀ a n c, v = .slice (some a) n c → 0 < n → ¬ F a.block) : StrsAt w' v l := by
  rcases h with h | ⟨b, off, cap, rfl, hc⟩
  · exact .inl h
  · refine .inr ⟨b, off, cap, rfl, fun j hj => ?_⟩
    have h1 := hc j hj
    have hlt := World.block_lt_of_cell? w ⟨b, off + j, none⟩ h1
    rw [World.cell?_of_block (w := w) (a := ⟨b, off + j, none⟩) (k.block b hlt (hF _ _ _ rfl (by omega)))]
    exact h1
theorem calm_put_msg {a w : World} (h : Calm a w) {b : Nat} (hb : a.heap.size ≤ b) (u0 u1 u2 u3 u4 u5 u6 u7 u8 u9 : Value) : Calm a ((((((((((w.setCell ⟨b, 0, none⟩ u0).setCell ⟨b, 1, none⟩ u1).setCell ⟨b, 2, none⟩ u2).setCell ⟨b, 3, none⟩ u3).setCell ⟨b, 4, none⟩ u4).setCell ⟨b, 5, none⟩ u5).setCell ⟨b, 6, none⟩ u6).setCell ⟨b, 7, none⟩ u7).setCell ⟨b, 8, none⟩ u8).setCell ⟨b, 9, none⟩ u9) :=
  calm_setCell (calm_setCell (calm_setCell (calm_setCell (calm_setCell (calm_setCell (calm_setCell (calm_setCell (calm_setCell (calm_setCell (h) (p := ⟨b, 0, none⟩) hb u0) (p := ⟨b, 1, none⟩) hb u1) (p := ⟨b, 2, none⟩) hb u2) (p := ⟨b, 3, none⟩) hb u3) (p := ⟨b, 4, none⟩) hb u4) (p := ⟨b, 5, none⟩) hb u5) (p := ⟨b, 6, none⟩) hb u6) (p := ⟨b, 7, none⟩) hb u7) (p := ⟨b, 8, none⟩) hb u8) (p := ⟨b, 9, none⟩) hb u9
theorem msgSize : (Tryz.prog.info? 62).map (·.size) = some 10 := by kernel_rfl
end Go.Proofs.YtjpokaifbnkmhaaGreatDoor.rc

namespace Go.Proofs.YtjpokaifbnkmhaaGreatDoor.rc
open Go.ChangeShapes Go.WideShapes Go.ChangeAt Go.RowKit Go.Shelf
open Go.Proofs.YtjpokaifbnkmhaaGreatDoor.nm Go.Proofs.YtjpokaifbnkmhaaGreatDoor.vs
theorem MsgS.eq_iff {a b : MsgS} : a = b ↔ a.kind = b.kind ∧ a.queue = b.queue ∧ a.due = b.due ∧ a.retry = b.retry ∧ a.ref = b.ref ∧ a.born = b.born ∧ a.topic = b.topic ∧ a.tag = b.tag ∧ a.body = b.body ∧ a.keys = b.keys := by
  cases a; cases b; simp
instance : DecidableEq MsgS := fun _ _ => decidable_of_iff _ MsgS.eq_iff.symm
theorem differ {a b : MsgS} {r : Bool} (hr : Box (decide (a = b) = r)) (h : a ≠ b) : false = r := by rw [← hr.out, eq_comm]; exact decide_eq_false h
theorem Equal_any (v u : Value) (l m : List ByteArray) (w : World) (h : StrsAt w v l) (g : StrsAt w u m) (hl : l.length ≤ 4294967296) (hm : m.length ≤ 4294967296) :
    Calls Tryz.prog 249 #[v, u] w fun e w' => e = .returned (.bool (decide (l = m))) ∧ Calm w w' := by
  by_cases hlen : l.length = m.length
  · rcases h with ⟨rfl, a, cap, rfl⟩ | ⟨b, off, cap, rfl, hc⟩
    · obtain ⟨ua, ucap, rfl, _⟩ := g.uni
      refine (Tryz.slices_Equal_string_empty a ua cap m.length ucap w (by omega)).mono ?_
      rintro e w' ⟨rfl, rfl⟩
      have : m = [] := List.eq_nil_of_length_eq_zero (by simpa using hlen.symm)
      exact ⟨ret_bool (by subst this; rfl), Calm.refl _⟩
    · rcases g with ⟨rfl, a2, cap2, rfl⟩ | ⟨b2, off2, cap2, rfl, hc2⟩
      · have : l = [] := List.eq_nil_of_length_eq_zero (by simpa using hlen)
        subst this
        refine (Tryz.slices_Equal_string_empty (some ⟨b, off, none⟩) a2 cap 0 cap2 w (by decide)).mono ?_
        rintro e w' ⟨rfl, rfl⟩
        exact ⟨rfl, Calm.refl _⟩
      · refine (Tryz.slices_Equal_string b off l.length cap b2 off2 m.length cap2 l m w (Nat.le_refl _) (Nat.le_refl _) (by omega) (by omega) hc hc2).mono ?_
        rintro e w' ⟨rfl, q, rfl⟩
        exact ⟨ret_bool (by rw [List.take_length, List.take_length]), (Calm.refl _).drewN _⟩
  · obtain ⟨va, vcap, rfl, _⟩ := h.uni
    obtain ⟨ua, ucap, rfl, _⟩ := g.uni
    refine (Tryz.slices_Equal_string_lens va ua l.length vcap m.length ucap w hlen).mono ?_
    rintro e w' ⟨rfl, rfl⟩
    exact ⟨ret_bool (by rw [eq_comm]; exact decide_eq_false (fun e => hlen (by rw [e]))), Calm.refl _⟩
set_option maxRecDepth 100000 in
set_option maxHeartbeats 8000000 in
theorem rSame_any (a b : MsgS) (ka kb : Value) (w : World) (ha : StrsAt w ka a.keys) (hb : StrsAt w kb b.keys) (la : a.keys.length ≤ 1000000) (lb : b.keys.length ≤ 1000000) :
    Calls Tryz.prog 37 #[.agg (msgA a ka), .agg (msgA b kb)] w fun e w' => e = .returned (.bool (decide (a = b))) ∧ Calm w w' := by
  obtain ⟨r, hr⟩ : ∃ r, decide (a = b) = r := ⟨_, rfl⟩
  rw [hr]
  have Hr := box hr
  clear hr
  have He := box (fun W (hW : Calm w W) => Texts_any ka kb a.keys b.keys W (ha.calm hW) (hb.calm hW) (by omega) (by omega))
  clear ha hb la lb
  obtain ⟨ak, aq, ad, ar, af, an, at_, ag, ab, aks⟩ := a
  obtain ⟨bk, bq, bd, br, bf, bn, bt, bg, bb, bks⟩ := b
  go_enter Tryz.func37, Tryz.ntmps37
  go_wp2_with fail
  all_goals try (go_ret; exact ⟨ret_bool (differ Hr (fun e => by cases e; simp_all)), ((Calm.refl w).alloc _).alloc _⟩)
  refine (He.out _ (((Calm.refl w).alloc _).alloc _)).mono ?_
  rintro e w1 ⟨rfl, hc⟩
  have Hc := box ((((Calm.refl w).alloc _).alloc _).trans hc)
  clear hc
  have Hf := box (show decide (aks = bks) = r by
    rw [← Hr.out]
    have e6 : at_ = bt := ba_ext (by rw [← Lib.toList_data, ← Lib.toList_data]; assumption)
    have e7 : ag = bg := ba_ext (by rw [← Lib.toList_data, ← Lib.toList_data]; assumption)
    have e8 : ab = bb := ba_ext (by rw [← Lib.toList_data, ← Lib.toList_data]; assumption)
    subst e6 e7 e8
    subst_vars
    exact decide_eq_decide.2 ⟨fun e => by rw [e], fun e => by cases e; rfl⟩)
  go_wp2_with fail
  go_ret
  exact ⟨ret_bool Hf.out, Hc.out⟩
set_option maxRecDepth 100000 in
set_option maxHeartbeats 8000000 in
theorem Same_any (a b : MsgS) (ka kb : Value) (w : World) (ha : StrsAt w ka a.keys) (hb : StrsAt w kb b.keys) (la : a.keys.length ≤ 1000000) (lb : b.keys.length ≤ 1000000) :
    Calls Tryz.prog 207 #[.agg (msgA a ka), .agg (msgA b kb)] w fun e w' => e = .returned (.bool (decide (a = b))) ∧ Calm w w' := by
  obtain ⟨r, hr⟩ : ∃ r, decide (a = b) = r := ⟨_, rfl⟩
  rw [hr]
  have Hr := box hr
  clear hr
  have He := box (fun W (hW : Calm w W) => Equal_any ka kb a.keys b.keys W (ha.calm hW) (hb.calm hW) (by omega) (by omega))
  clear ha hb la lb
  obtain ⟨ak, aq, ad, ar, af, an, at_, ag, ab, aks⟩ := a
  obtain ⟨bk, bq, bd, br, bf, bn, bt, bg, bb, bks⟩ := b
  go_enter Tryz.func207, Tryz.ntmps207
  go_wp2_with fail
  all_goals try (go_ret; exact ⟨ret_bool (differ Hr (fun e => by cases e; simp_all)), ((Calm.refl w).alloc _).alloc _⟩)
  refine (He.out _ (((Calm.refl w).alloc _).alloc _)).mono ?_
  rintro e w1 ⟨rfl, hc⟩
  have Hc := box ((((Calm.refl w).alloc _).alloc _).trans hc)
  clear hc
  have Hf := box (show decide (aks = bks) = r by
    rw [← Hr.out]
    have e6 : at_ = bt := ba_ext (by rw [← Lib.toList_data, ← Lib.toList_data]; assumption)
    have e7 : ag = bg := ba_ext (by rw [← Lib.toList_data, ← Lib.toList_data]; assumption)
    have e8 : ab = bb := ba_ext (by rw [← Lib.toList_data, ← Lib.toList_data]; assumption)
    subst e6 e7 e8
    subst_vars
    exact decide_eq_decide.2 ⟨fun e => by rw [e], fun e => by cases e; rfl⟩)
  go_wp2_with fail
  go_ret
  exact ⟨ret_bool Hf.out, Hc.out⟩
end Go.Proofs.YtjpokaifbnkmhaaGreatDoor.rc

namespace Go.Proofs.YtjpokaifbnkmhaaGreatDoor.rc
open Go.ChangeShapes Go.WideShapes Go.ChangeAt Go.RowKit Go.Shelf
open Go.Proofs.YtjpokaifbnkmhaaGreatDoor.nm Go.Proofs.YtjpokaifbnkmhaaGreatDoor.vs
theorem not_true_of {p : Prop} [Decidable p] {r : Bool} (hr : Box (decide p = r)) (h : ¬ p) : false = r := by rw [← hr.out, eq_comm]; exact decide_eq_false h
def RightP (m : MsgS) : Prop := numsB m = true ∧
  ((m.kind = 1 ∧ Carries m ∧ m.due = 0 ∧ m.ref = 0) ∨ ((m.kind = 2 ∨ m.kind = 3) ∧ Carries m) ∨
  ((m.queue = 0 ∧ m.retry = 0 ∧ m.due = 0 ∧ m.topic.size = 0 ∧ m.tag.size = 0 ∧ m.keys.length = 0) ∧
    ((m.kind = 4 ∧ m.body.size = 0) ∨ (m.kind = 0 ∧ m.ref = 0 ∧ m.born = 0 ∧ m.body.size ≤ 1024 ∧ m.body.data.toList.all (· == 0) = true))))
instance (m : MsgS) : Decidable (RightP m) := by unfold RightP; exact inferInstance
theorem RightP.of3 {m : MsgS} (h3 : m.kind = 1 ∨ m.kind = 2 ∨ m.kind = 3) : RightP m ↔ Right3 m := by
  unfold RightP Right3
  constructor
  · rintro ⟨h1, ⟨hk, hc, hd⟩ | ⟨hk, hc⟩ | ⟨_, ⟨hk, _⟩ | ⟨hk, _⟩⟩⟩
    · exact ⟨h1, hc, fun _ => hd⟩
    · exact ⟨h1, hc, fun h => by omega⟩
    · omega
    · omega
  · rintro ⟨h1, hc, hd⟩
    rcases h3 with h | h | h
    · exact ⟨h1, .inl ⟨h, hc, hd h⟩⟩
    · exact ⟨h1, .inr (.inl ⟨.inl h, hc⟩)⟩
    · exact ⟨h1, .inr (.inl ⟨.inr h, hc⟩)⟩
end Go.Proofs.YtjpokaifbnkmhaaGreatDoor.rc

namespace Go.Proofs.YtjpokaifbnkmhaaGreatDoor.rc
open Go.RowKit
open Go.Proofs.YtjpokaifbnkmhaaGreatDoor.nm Go.Proofs.YtjpokaifbnkmhaaGreatDoor.vs
theorem plain_size {s : ByteArray} (h : plainB s = true) : s.size ≤ 16 := by
  unfold plainB plainL at h
  simp only [Bool.and_eq_true, decide_eq_true_eq, size_toList] at h
  exact h.1.2
theorem hit_size {s hd : ByteArray} (h : hitS s hd = true) : s.size ≤ hd.size + 8 := by
  unfold hitS groupB groupL at h
  simp only [Bool.and_eq_true, decide_eq_true_eq, size_toList] at h
  obtain ⟨h1, _, h3⟩ := h
  unfold cutS Lib.trimPrefix at h3
  unfold hasS at h1
  rw [if_pos h1] at h3
  have : ((⟨(s.data.toList.drop hd.data.toList.length).toArray⟩ : ByteArray)).size = s.size - hd.size := by show (_ : List UInt8).toArray.size = _; simp
  rw [this] at h3
  omega
theorem topic_size {s : ByteArray} (h : topicB s = true) : s.size ≤ 16 := by
  unfold topicB ofOk at h
  simp only [Bool.or_eq_true] at h
  rcases h with (h | h) | h
  · have := hit_size h; have e : retryC.size = 7 := rfl; omega
  · have := hit_size h; have e : deadC.size = 6 := rfl; omega
  · exact plain_size h
theorem tag_size {s : ByteArray} (h : tagB s = true) : s.size ≤ 16 := by
  unfold tagB at h
  simp only [Bool.or_eq_true, decide_eq_true_eq] at h
  rcases h with h | h
  · omega
  · exact plain_size h
theorem key_size {s : ByteArray} (h : nm.keyB s = true) : s.size ≤ 16 := by
  unfold nm.keyB keyL at h
  simp only [Bool.and_eq_true, decide_eq_true_eq, size_toList] at h
  exact h.1.2
theorem right_fits : ∀ m, RightP m → m.kind ≠ 0 → Fits m := fun m h hk => by
  obtain ⟨hn, h⟩ := h
  unfold numsB at hn
  simp only [Bool.and_eq_true, numB_iff] at hn
  have car : ∀ (_ : m.kind = 1 ∨ m.kind = 2 ∨ m.kind = 3), Carries m → Fits m := fun hk3 hc => by
    obtain ⟨a1, a2, a3, a4, a5, a6, a7, a8, a9, a10⟩ := hc
    exact ⟨by omega, by omega, by omega, by omega, by omega, by omega, topic_size a1, tag_size a6, a10, a7, fun s hs => key_size (List.all_eq_true.1 a8 s hs)⟩
  rcases h with ⟨h1, hc, _⟩ | ⟨h1, hc⟩ | ⟨⟨h1, h2, h3, h4, h5, h6⟩, ⟨h7, h8⟩ | ⟨h7, _⟩⟩
  · exact car (.inl h1) hc
  · exact car (.inr h1) hc
  · exact ⟨by omega, by omega, by omega, by omega, by omega, by omega, by omega, by omega, by omega, by omega, fun s hs => by rw [List.eq_nil_of_length_eq_zero h6] at hs; cases hs⟩
  · exact absurd h7 hk
end Go.Proofs.YtjpokaifbnkmhaaGreatDoor.rc
