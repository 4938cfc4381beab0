/- Layer 6: which records may be, as the document says. -/
import Derived.Test.YtofffmnkoelifaaRows
import Derived.WalkKit
import Derived.ProofKit
import Derived.OpenShut
import Derived.Handy
import Derived.Deep.LoopGhost
import Derived.Lib.Hide
import Derived.Lib.Strings
import Derived.SizedLaws
import Derived.Deep.Slices
import Derived.Shelf.SlIter.Nil
import Derived.Ground.GgzProg
import Derived.Shelf.SortM.Plain
import Derived.Shelf.SortM.SortNone
import Derived.Ground.SlgmProg
import Derived.Test.YtofffmnkoelifaaProg
import Derived.Shelf.Strings.Builder1
import Derived.Shelf.Strings.Builder2
import Derived.Shelf.Small.Bits
import Derived.Shelf.Small.Wraps
import Derived.Shelf.Strings.BuilderF
import Derived.Shelf.Strings.BuilderK
import Derived.Shelf.Strings.Builder2Cap
import Derived.Shelf.Strconv.Itoa0
import Derived.Shelf.Sort.Plain
import Derived.Shelf.GgClosure.StringsIndexFunc
import Derived.Ground.GgwProg
import Derived.Shelf.GgClosure.StringsIndexFuncTop
import Derived.Shelf.GgClosure.StringsRunes
import Derived.Shelf.Strings.Prefix
import Derived.Shelf.Bits.Mul64
import Derived.Shelf.Strings.Repeat
import Derived.Shelf.Strings.BuilderCap
import Derived.Shelf.Slices.Equal
import Derived.Ground.Names2Prog
import Derived.Shelf.Slices.Clone
import Derived.Shelf.Slices.CompactS
import Derived.Shelf.Slices.SearchI
import Derived.Shelf.Slices.Cells
import Derived.Shelf.Slices.In.SortNone
import Derived.Shelf.Slices.Empties2
import Derived.Ground.SlgnProg
import Derived.Shelf.SlicesE.Equal
import Derived.Shelf.SlicesE.Compact
import Derived.Shelf.SlicesE.Clone
import Derived.Ground.SlgfProg
import Derived.Shelf.SlicesE.IndexFunc
import Derived.Shelf.SlicesE.DeleteFunc
import Derived.RangeFuncBox
import Derived.RangeFuncLeaves
import Derived.Shelf.Abstract
import Derived.OwnWalkIn
import Derived.TacticsInMore
import Derived.LoopNIn
import Derived.LoopIn
import Derived.Maps.AppendAt
import Derived.Lib.SlicesCompact
import Derived.Deep.QuietTactic
import Derived.BigQuiet
import Derived.Laws.ResultCell
import Derived.Laws.Rows
import Derived.Deep.RegionHeld3
import Derived.Test.YtofffmnkoelifaaPk9
namespace Go.Proofs.Ytofffmnkoelifaa.rc
open Go.ChangeShapes Go.WideShapes Go.ChangeAt Go.RowKit Go.Shelf
open Go.Proofs.Ytofffmnkoelifaa.nm Go.Proofs.Ytofffmnkoelifaa.vs

theorem not_true_of {p : Prop} [Decidable p] {r : Bool} (hr : Box (decide p = r)) (h : ¬ p) : false = r := by rw [← hr.out, eq_comm]; exact decide_eq_false h
theorem true_of {p : Prop} [Decidable p] {r : Bool} (hr : Box (decide p = r)) (h : p) : true = r := by rw [← hr.out, eq_comm]; exact decide_eq_true h
theorem rnum_any (x : Int) (w : World) : Calls Try.prog 47 #[.int .i64 x] w fun e w' => e = .returned (.bool (numB x)) ∧ w = w' := by
  obtain ⟨r, hr⟩ : ∃ r, numB x = r := ⟨_, rfl⟩
  rw [hr]
  have Hr := box hr
  clear hr
  go_enter Try.func47, Try.ntmps47
  go_wp2_with fail
  all_goals
    go_ret
    exact ⟨ret_bool (by rw [← Hr.out, Bool.eq_iff_iff]; simp [numB] <;> omega), rfl⟩
/-- Keys ahead of one are unlike it, and one another. -/
theorem nodup_snoc (l : List ByteArray) (k : Nat) (hk : k < l.length) (h : ((l.take k).map (·.data.toList)).Nodup) (hn : ∀ j (hj : j < k), l[j] ≠ l[k]) : ((l.take (k + 1)).map (·.data.toList)).Nodup := by
  rw [List.take_succ_eq_append_getElem hk, List.map_append, List.nodup_append]
  refine ⟨h, by simp, fun a ha b hb => ?_⟩
  simp only [List.map_cons, List.map_nil, List.mem_singleton] at hb
  obtain ⟨x, hx, rfl⟩ := List.mem_map.1 ha
  obtain ⟨j, hj, rfl⟩ := List.mem_iff_getElem.1 hx
  rw [List.getElem_take] at hx ⊢
  rw [List.length_take] at hj
  subst hb
  intro e
  exact hn j (by omega) (ba_ext e)
theorem unlike_no (l : List ByteArray) (k j : Nat) (hk : k < l.length) (hj : j < k) (h : l[j] = l[k]) : ¬ unlikeB l = true := by
  unfold unlikeB
  rw [decide_eq_true_eq]
  intro hn
  have h1 : (l.map (·.data.toList))[j]'(by simp; omega) = (l.map (·.data.toList))[k]'(by simp; omega) := by simp [h]
  have := (List.getElem_inj hn).1 h1
  omega
set_option maxRecDepth 100000 in
set_option maxHeartbeats 8000000 in
theorem rCarries_any (m : MsgS) (kv : Value) (w : World) (hk : StrsAt w kv m.keys) (hs : ∀ s ∈ m.keys, s.size ≤ maxLen) (hz : m.topic.size ≤ maxLen ∧ m.tag.size ≤ maxLen) :
    Calls Try.prog 48 #[.agg (msgA m kv)] w fun e w' => e = .returned (.bool (decide (Carries m))) ∧ Calm w w' := by
  obtain ⟨r, hr⟩ : ∃ r, decide (Carries m) = r := ⟨_, rfl⟩
  rw [hr]
  have Hr := box hr
  clear hr
  obtain ⟨kd, q, du, rt, rf, bn, tp, tg, bd, ks⟩ := m
  simp only at hk hs hz
  obtain ⟨hz1, hz2⟩ := hz
  obtain ⟨a, cap, rfl, hcells⟩ := hk.uni
  have Hcells := box hcells
  have Hs := box hs
  obtain ⟨W1, hW1⟩ : ∃ W1, w.alloc (.cells (msgA ⟨kd, q, du, rt, rf, bn, tp, tg, bd, ks⟩ (.slice a ks.length cap)) 33) = W1 := ⟨_, rfl⟩
  have Hn := box (show W1.heap[w.heap.size]? = some (.cells (msgA ⟨kd, q, du, rt, rf, bn, tp, tg, bd, ks⟩ (.slice a ks.length cap)) 33 (0, 0)) by rw [← hW1]; exact heap_new w _)
  have H0 := box (show Calm w W1 by rw [← hW1]; exact (Calm.refl w).alloc _)
  have htop := box (rTopic_any tp W1 hz1)
  have htag := box (rTag_any tg W1 hz2)
  clear hk hs hz1 hz2 hcells
  have c6 := cell_of Hn.out 6
  have hlt := heap_lt Hn.out
  go_enter Try.func48, Try.ntmps48
  go_wp2_with fail
  clear hW1 c6 hlt
  refine htop.out.mono ?_
  cases htp : topicB tp
  · rintro e w1 ⟨rfl, rfl⟩
    go_wp2_with fail
    go_ret
    exact ⟨ret_bool (not_true_of Hr (fun h => by have := h.1; simp only at this; rw [htp] at this; cases this)), H0.out⟩
  · rintro e w1 ⟨rfl, rfl⟩
    have c0 := cell_of Hn.out 0
    have c1 := cell_of Hn.out 1
    have c2 := cell_of Hn.out 2
    have c3 := cell_of Hn.out 3
    have c4 := cell_of Hn.out 4
    have c5 := cell_of Hn.out 5
    have c6 := cell_of Hn.out 6
    have c7 := cell_of Hn.out 7
    have c8 := cell_of Hn.out 8
    have c9 := cell_of Hn.out 9
    have hlt := heap_lt Hn.out
    go_wp2_with fail
    refine htag.out.mono ?_
    cases htg : tagB tg
    · rintro e w1 ⟨rfl, rfl⟩
      go_wp2_with fail
      go_ret
      exact ⟨ret_bool (not_true_of Hr (fun h => by have := h.2.2.2.2.2.1; simp only at this; rw [htg] at this; cases this)), H0.out⟩
    · rintro e w1 ⟨rfl, rfl⟩
      go_wp2_with fail
      all_goals first | (go_ret; exact ⟨ret_bool (not_true_of Hr (fun h => by obtain ⟨_, h2, h3, h4, h5, _, h7, _, _, h10⟩ := h; simp only at h2 h3 h4 h5 h7 h10; omega)), H0.out⟩) | skip
      have Hfit := box (show ks.all nm.keyB = true → unlikeB ks = true → Carries ⟨kd, q, du, rt, rf, bn, tp, tg, bd, ks⟩ from fun h8 h9 => ⟨htp, by simp only; omega, by simp only; omega, by simp only; omega, by simp only; omega, htg, by simp only; omega, h8, h9, by simp only; omega⟩)
      clear c0 c1 c2 c3 c4 c5 c6 c7 c8 c9 hlt htop htag
      go_loopw [3] (fun i wr => ∃ j : Nat, j ≤ ks.length ∧ i = .int .i64 j ∧ Calm W1 wr ∧ (ks.take j).all nm.keyB = true ∧ ((ks.take j).map (·.data.toList)).Nodup) (fun i _ => ks.length - (intOf i).toNat)
      case atStart => exact ⟨0, Nat.zero_le _, rfl, Calm.refl _, rfl, List.nodup_nil⟩
      case round =>
        obtain ⟨j, hj, rfl, hcal, hall, hnd⟩ := hrel
        have HC := box hcal
        have HA := box hall
        have HN := box hnd
        clear hcal hall hnd
        have J := box (heap_calm HC.out Hn.out)
        have c9 := cell_of J.out 9
        have hlt0 := heap_lt J.out
        obtain ⟨wo, hwo⟩ : ∃ wo : World, wo = wr := ⟨_, rfl⟩
        subst hwo
        by_cases hlt : j < ks.length
        · obtain ⟨kb, koff, rfl, hkb, hkc⟩ := Hcells.out j hlt
          have kc := ((H0.out.trans HC.out).cell (p := ⟨kb, koff + j, none⟩) hkb).trans hkc
          have klt := Nat.lt_of_lt_of_le hkb (H0.out.trans HC.out).size
          rw [List.getD_eq_getElem?_getD, List.getElem?_eq_getElem hlt] at kc
          simp only [Option.getD_some] at kc
          have hsj := box (Hs.out _ (List.getElem_mem hlt))
          have HAn := box (show nm.keyB ks[j] = true → (ks.take (j + 1)).all nm.keyB = true from fun h => by
            rw [List.take_succ_eq_append_getElem hlt, List.all_append, HA.out]; simp [h])
          have HAx := box (show nm.keyB ks[j] = false → ¬ Carries ⟨kd, q, du, rt, rf, bn, tp, tg, bd, ks⟩ from fun h hc => by
            have h8 := List.all_eq_true.1 hc.2.2.2.2.2.2.2.1 ks[j] (List.getElem_mem hlt)
            rw [h] at h8; cases h8)
          have HNn := box (nodup_snoc ks j hlt HN.out)
          have HNx := box (show ∀ x (hx : x < j), ks[x] = ks[j] → ¬ Carries ⟨kd, q, du, rt, rf, bn, tp, tg, bd, ks⟩ from fun x hx h hc => unlike_no ks j x hlt hx h hc.2.2.2.2.2.2.2.2.1)
          obtain ⟨s, hs⟩ : ∃ s, ks[j] = s := ⟨_, rfl⟩
          rw [hs] at kc hsj HAn HAx HNn HNx
          clear hs hkc
          have hkey := box (rKey_any s wo hsj.out)
          go_wp2_with fail
          refine hkey.out.mono ?_
          cases hks : nm.keyB s
          · rintro e w1 ⟨rfl, rfl⟩
            go_wp2_with fail
            go_ret
            exact ⟨ret_bool (not_true_of Hr (HAx.out hks)), H0.out.trans HC.out⟩
          · rintro e w1 ⟨rfl, rfl⟩
            have HAn := box (HAn.out hks)
            go_wp2_with fail
            go_loopw [4] (fun i wr => ∃ k : Nat, k ≤ j ∧ i = .int .i64 k ∧ Calm wo wr ∧ ∀ x (hx : x < k) (hx2 : x < ks.length), ks[x] ≠ s) (fun i _ => j - (intOf i).toNat)
            case atStart => exact ⟨0, Nat.zero_le _, rfl, Calm.refl _, fun x hx => absurd hx (Nat.not_lt_zero _)⟩
            case round =>
              obtain ⟨k, hk, rfl, hcal, hne⟩ := hrel
              have HC2 := box hcal
              have HE := box hne
              clear hcal hne c9 hlt0
              have J2 := box (heap_calm HC2.out J.out)
              have c9 := cell_of J2.out 9
              have hlt0 := heap_lt J2.out
              by_cases hkj : k < j
              · obtain ⟨kb2, koff2, he, hkb2, hkc2⟩ := Hcells.out k (by omega)
                cases he
                have kd1 := (HC2.out.cell (p := ⟨kb, koff + j, none⟩) klt).trans kc
                have kd2 := ((H0.out.trans (HC.out.trans HC2.out)).cell (p := ⟨kb, koff + k, none⟩) hkb2).trans hkc2
                have klt2 := Nat.lt_of_lt_of_le klt HC2.out.size
                rw [List.getD_eq_getElem?_getD, List.getElem?_eq_getElem (by omega : k < ks.length)] at kd2
                simp only [Option.getD_some] at kd2
                have HNk := box (HNx.out k hkj)
                have HEk := box (show ks[k]'(by omega) ≠ s → ∀ x (hx : x < k + 1) (hx2 : x < ks.length), ks[x] ≠ s from fun h x hx hx2 => by
                  by_cases e : x = k
                  · subst e; exact h
                  · exact HE.out x (by omega) hx2)
                obtain ⟨u, hu⟩ : ∃ u, ks[k]'(by omega) = u := ⟨_, rfl⟩
                rw [hu] at kd2 HNk HEk
                clear hu hkc2 kc klt
                by_cases hus : u = s
                · subst hus
                  go_wp2_with (first | go_quiet (fail) | fail)
                  go_wp2_with fail
                  go_ret
                  exact ⟨ret_bool (not_true_of Hr (HNk.out (by first | rfl | trivial))), (H0.out.trans (HC.out.trans HC2.out)).drewN _⟩
                · have hb1 : (u.toList == s.toList) = false := beq_eq_false_iff_ne.2 (fun e => hus (ba_ext (by rw [← Lib.toList_data, ← Lib.toList_data]; exact e)))
                  have HEk := box (HEk.out hus)
                  clear hus
                  go_wp2_with (first | go_quiet (fail) | fail)
                  go_wp2_with fail
                  go_roundw
                  case rel => exact ⟨k + 1, by omega, by go_num, HC2.out.drewN _, HEk.out⟩
                  case measure => simp [intOf]; omega
              · obtain rfl : k = j := by omega
                go_wp2_with fail
                go_roundw
                case rel => exact ⟨k + 1, by omega, by go_num, HC.out.trans HC2.out, HAn.out, HNn.out (fun x hx => HE.out x hx (by omega))⟩
                case measure => simp [intOf]; omega
        · obtain rfl : j = ks.length := by omega
          have hfin := box (Hfit.out (by have := HA.out; rwa [List.take_length] at this) (by have := HN.out; rw [List.take_length] at this; exact decide_eq_true this))
          go_wp2_with fail
          go_ret
          exact ⟨ret_bool (true_of Hr hfin.out), H0.out.trans HC.out⟩
/-- May it be? (Any kind.) -/
def RightP (m : MsgS) : Prop := numsB m = true ∧
  ((m.kind = 1 ∧ Carries m ∧ m.due = 0 ∧ m.ref = 0) ∨ ((m.kind = 2 ∨ m.kind = 3) ∧ Carries m) ∨
  ((m.queue = 0 ∧ m.retry = 0 ∧ m.due = 0 ∧ m.topic.size = 0 ∧ m.tag.size = 0 ∧ m.keys.length = 0) ∧
    ((m.kind = 4 ∧ m.body.size = 0) ∨ (m.kind = 0 ∧ m.ref = 0 ∧ m.born = 0 ∧ m.body.size ≤ 1024 ∧ m.body.data.toList.all (· == 0) = true))))
instance (m : MsgS) : Decidable (RightP m) := by unfold RightP; exact inferInstance
theorem RightP.of3 {m : MsgS} (h3 : m.kind = 1 ∨ m.kind = 2 ∨ m.kind = 3) : RightP m ↔ Right3 m := by
  unfold RightP Right3
  constructor
  · rintro ⟨h1, ⟨hk, hc, hd⟩ | ⟨hk, hc⟩ | ⟨_, ⟨hk, _⟩ | ⟨hk, _⟩⟩⟩
    · exact ⟨h1, hc, fun _ => hd⟩
    · exact ⟨h1, hc, fun h => by omega⟩
    · omega
    · omega
  · rintro ⟨h1, hc, hd⟩
    rcases h3 with h | h | h
    · exact ⟨h1, .inl ⟨h, hc, hd h⟩⟩
    · exact ⟨h1, .inr (.inl ⟨.inl h, hc⟩)⟩
    · exact ⟨h1, .inr (.inl ⟨.inr h, hc⟩)⟩
theorem no_bytes {b : ByteArray} (h : b.size = 0) : b.toList = [] := by rw [Lib.toList_data]; exact List.eq_nil_of_length_eq_zero (by rw [size_toList]; exact h)
theorem bytes_no {b : ByteArray} (h : b.toList = []) : b.size = 0 := by rw [← size_toList, ← Lib.toList_data, h]; rfl
theorem ne_of_beq_false {a b : Int} (h : (a == b) = false) : a ≠ b := beq_eq_false_iff_ne.1 h
set_option maxRecDepth 100000 in
set_option maxHeartbeats 8000000 in
theorem rRight_any (m : MsgS) (kv : Value) (w : World) (hk : StrsAt w kv m.keys) (hs : ∀ s ∈ m.keys, s.size ≤ maxLen) (hz : m.topic.size ≤ maxLen ∧ m.tag.size ≤ maxLen ∧ m.body.size ≤ maxLen) :
    Calls Try.prog 21 #[.agg (msgA m kv)] w fun e w' => e = .returned (.bool (decide (RightP m))) ∧ Calm w w' := by
  obtain ⟨r, hr⟩ : ∃ r, decide (RightP m) = r := ⟨_, rfl⟩
  rw [hr]
  have Hr := box hr
  clear hr
  have hcar := box (fun W (hW : Calm w W) => rCarries_any m kv W (hk.calm hW) hs ⟨hz.1, hz.2.1⟩)
  obtain ⟨kd, q, du, rt, rf, bn, tp, tg, bd, ks⟩ := m
  simp only at hk hs hz
  obtain ⟨hz1, hz2, hz3⟩ := hz
  obtain ⟨a, cap, rfl, _⟩ := hk.uni
  obtain ⟨W1, hW1⟩ : ∃ W1, w.alloc (.cells (msgA ⟨kd, q, du, rt, rf, bn, tp, tg, bd, ks⟩ (.slice a ks.length cap)) 33) = W1 := ⟨_, rfl⟩
  have Hn := box (show W1.heap[w.heap.size]? = some (.cells (msgA ⟨kd, q, du, rt, rf, bn, tp, tg, bd, ks⟩ (.slice a ks.length cap)) 33 (0, 0)) by rw [← hW1]; exact heap_new w _)
  have H0 := box (show Calm w W1 by rw [← hW1]; exact (Calm.refl w).alloc _)
  clear hk hs
  unfold maxLen at hz1 hz2 hz3
  have c0 := cell_of Hn.out 0
  have c1 := cell_of Hn.out 1
  have c2 := cell_of Hn.out 2
  have c3 := cell_of Hn.out 3
  have c4 := cell_of Hn.out 4
  have c5 := cell_of Hn.out 5
  have c6 := cell_of Hn.out 6
  have c7 := cell_of Hn.out 7
  have c8 := cell_of Hn.out 8
  have c9 := cell_of Hn.out 9
  have hlt := heap_lt Hn.out
  go_enter Try.func21, Try.ntmps21
  go_wp2_with fail
  clear hW1
  refine (rnum_any du _).mono ?_
  cases h1 : numB du
  · rintro e w1 ⟨rfl, rfl⟩
    go_wp2_with fail
    go_ret
    exact ⟨ret_bool (not_true_of Hr (fun h => by have := h.1; unfold numsB at this; simp only at this; rw [h1] at this; simp at this)), H0.out⟩
  rintro e w1 ⟨rfl, rfl⟩
  go_wp2_with fail
  refine (rnum_any rf _).mono ?_
  cases h2 : numB rf
  · rintro e w1 ⟨rfl, rfl⟩
    go_wp2_with fail
    go_ret
    exact ⟨ret_bool (not_true_of Hr (fun h => by have := h.1; unfold numsB at this; simp only at this; rw [h1, h2] at this; simp at this)), H0.out⟩
  rintro e w1 ⟨rfl, rfl⟩
  go_wp2_with fail
  refine (rnum_any bn _).mono ?_
  cases h3 : numB bn
  · rintro e w1 ⟨rfl, rfl⟩
    go_wp2_with fail
    go_ret
    exact ⟨ret_bool (not_true_of Hr (fun h => by have := h.1; unfold numsB at this; simp only at this; rw [h1, h2, h3] at this; simp at this)), H0.out⟩
  rintro e w1 ⟨rfl, rfl⟩
  have Hnums := box (show numsB ⟨kd, q, du, rt, rf, bn, tp, tg, bd, ks⟩ = true by unfold numsB; simp only; rw [h1, h2, h3]; rfl)
  clear h1 h2 h3
  by_cases hk1 : kd = 1
  · subst hk1
    go_wp2_with fail
    refine (hcar.out _ H0.out).mono ?_
    by_cases hcr : Carries ⟨1, q, du, rt, rf, bn, tp, tg, bd, ks⟩
    · rw [decide_eq_true hcr]
      rintro e w3 ⟨rfl, hc3⟩
      have J3 := box (heap_calm hc3 Hn.out)
      clear c0 c1 c2 c3 c4 c5 c6 c7 c8 c9 hlt
      have d2 := cell_of J3.out 2
      have d4 := cell_of J3.out 4
      have hlt := heap_lt J3.out
      have Hcr := box hcr
      have C3 := box (H0.out.trans hc3)
      clear hcr hc3
      by_cases hd : du = 0
      · subst hd
        by_cases hf : rf = 0
        · subst hf
          go_wp2_with fail
          go_ret
          exact ⟨ret_bool (true_of Hr ⟨Hnums.out, .inl ⟨rfl, Hcr.out, rfl, rfl⟩⟩), C3.out⟩
        · have hf' : (rf == 0) = false := beq_eq_false_iff_ne.2 hf
          go_wp2_with fail
          go_ret
          exact ⟨ret_bool (not_true_of Hr (fun h => by obtain ⟨_, ⟨_, _, _, h⟩ | ⟨h, _⟩ | ⟨_, ⟨h, _⟩ | ⟨h, _⟩⟩⟩ := h <;> simp only at h <;> omega)), C3.out⟩
      · have hd' : (du == 0) = false := beq_eq_false_iff_ne.2 hd
        go_wp2_with fail
        go_ret
        exact ⟨ret_bool (not_true_of Hr (fun h => by obtain ⟨_, ⟨_, _, h, _⟩ | ⟨h, _⟩ | ⟨_, ⟨h, _⟩ | ⟨h, _⟩⟩⟩ := h <;> simp only at h <;> omega)), C3.out⟩
    · rw [decide_eq_false hcr]
      rintro e w3 ⟨rfl, hc3⟩
      have C3 := box (H0.out.trans hc3)
      clear hc3
      go_wp2_with fail
      go_ret
      exact ⟨ret_bool (not_true_of Hr (fun h => by
        obtain ⟨_, ⟨_, h, _⟩ | ⟨_, h⟩ | ⟨_, ⟨h, _⟩ | ⟨h, _⟩⟩⟩ := h
        · exact hcr h
        · exact hcr h
        · simp only at h; omega
        · simp only at h; omega)), C3.out⟩
  have e1 : (kd == 1) = false := beq_eq_false_iff_ne.2 hk1
  by_cases hk2 : kd = 2
  · subst hk2
    have hiff : decide (Carries ⟨2, q, du, rt, rf, bn, tp, tg, bd, ks⟩) = r := by
      rw [← Hr.out]
      exact decide_eq_decide.2 ⟨fun h => ⟨Hnums.out, .inr (.inl ⟨.inl rfl, h⟩)⟩, fun h => by
        obtain ⟨_, ⟨_, h, _⟩ | ⟨_, h⟩ | ⟨_, ⟨h, _⟩ | ⟨h, _⟩⟩⟩ := h
        · exact h
        · exact h
        · simp only at h; omega
        · simp only at h; omega⟩
    rw [hiff] at hcar
    clear hiff
    go_wp2_with fail
    refine (hcar.out _ H0.out).mono ?_
    rintro e w3 ⟨rfl, hc3⟩
    have C3 := box (H0.out.trans hc3)
    clear hc3
    go_wp2_with fail
    go_ret
    exact ⟨rfl, C3.out⟩
  have e2 : (kd == 2) = false := beq_eq_false_iff_ne.2 hk2
  by_cases hk3 : kd = 3
  · subst hk3
    have hiff : decide (Carries ⟨3, q, du, rt, rf, bn, tp, tg, bd, ks⟩) = r := by
      rw [← Hr.out]
      exact decide_eq_decide.2 ⟨fun h => ⟨Hnums.out, .inr (.inl ⟨.inr rfl, h⟩)⟩, fun h => by
        obtain ⟨_, ⟨_, h, _⟩ | ⟨_, h⟩ | ⟨_, ⟨h, _⟩ | ⟨h, _⟩⟩⟩ := h
        · exact h
        · exact h
        · simp only at h; omega
        · simp only at h; omega⟩
    rw [hiff] at hcar
    clear hiff
    go_wp2_with fail
    refine (hcar.out _ H0.out).mono ?_
    rintro e w3 ⟨rfl, hc3⟩
    have C3 := box (H0.out.trans hc3)
    clear hc3
    go_wp2_with fail
    go_ret
    exact ⟨rfl, C3.out⟩
  have e3 : (kd == 3) = false := beq_eq_false_iff_ne.2 hk3
  have Hno := box (show ∀ h : RightP ⟨kd, q, du, rt, rf, bn, tp, tg, bd, ks⟩, (q = 0 ∧ rt = 0 ∧ du = 0 ∧ tp.size = 0 ∧ tg.size = 0 ∧ ks.length = 0) ∧ ((kd = 4 ∧ bd.size = 0) ∨ (kd = 0 ∧ rf = 0 ∧ bn = 0 ∧ bd.size ≤ 1024 ∧ bd.data.toList.all (· == 0) = true)) from fun h => by
    obtain ⟨_, ⟨h, _⟩ | ⟨h, _⟩ | h⟩ := h
    · exact absurd h hk1
    · exact absurd h (by simp only; omega)
    · exact h)
  have Hyes := box (show (q = 0 ∧ rt = 0 ∧ du = 0 ∧ tp.size = 0 ∧ tg.size = 0 ∧ ks.length = 0) → ((kd = 4 ∧ bd.size = 0) ∨ (kd = 0 ∧ rf = 0 ∧ bn = 0 ∧ bd.size ≤ 1024 ∧ bd.data.toList.all (· == 0) = true)) → RightP ⟨kd, q, du, rt, rf, bn, tp, tg, bd, ks⟩ from fun h1 h2 => ⟨Hnums.out, .inr (.inr ⟨h1, h2⟩)⟩)
  clear hcar
  go_wp2_with fail
  all_goals first
    | (go_ret
       exact ⟨ret_bool (not_true_of Hr (fun h => by
        obtain ⟨⟨a1, a2, a3, a4, a5, a6⟩, _⟩ := Hno.out h
        first
          | omega
          | exact absurd (no_bytes a4) (by assumption)
          | exact absurd (no_bytes a5) (by assumption)
          | (have hh : ((ks.length : Int) != 0) = true := by assumption
             rw [a6] at hh; cases hh))), H0.out⟩)
    | skip
  · have Hflat := box (show (q = 0 ∧ rt = 0 ∧ du = 0 ∧ tp.size = 0 ∧ tg.size = 0 ∧ ks.length = 0) from ⟨by assumption, by assumption, by assumption, bytes_no (by assumption), bytes_no (by assumption), by
      have hh : ((ks.length : Int) != 0) = false := by assumption
      rw [bne, Bool.not_eq_false'] at hh
      have := eq_of_beq hh
      omega⟩)
    have hk4 : kd = 4 := eq_of_beq (by assumption)
    go_ret
    refine ⟨ret_bool ?_, H0.out⟩
    cases hb : bd.toList.isEmpty
    · exact not_true_of Hr (fun h => by
        obtain ⟨_, ⟨_, h5⟩ | ⟨h5, _⟩⟩ := Hno.out h
        · rw [no_bytes h5] at hb; cases hb
        · omega)
    · exact true_of Hr (Hyes.out Hflat.out (.inl ⟨hk4, bytes_no (List.isEmpty_iff.1 hb)⟩))
  · have Hflat := box (show (q = 0 ∧ rt = 0 ∧ du = 0 ∧ tp.size = 0 ∧ tg.size = 0 ∧ ks.length = 0) from ⟨by assumption, by assumption, by assumption, bytes_no (by assumption), bytes_no (by assumption), by
      have hh : ((ks.length : Int) != 0) = false := by assumption
      rw [bne, Bool.not_eq_false'] at hh
      have := eq_of_beq hh
      omega⟩)
    have Hk4 := box (show kd ≠ 4 from ne_of_beq_false (by assumption))
    go_loopw [3] (fun i wr => wr = W1 ∧ ∃ k : Nat, k ≤ bd.size ∧ i = .int .i64 k ∧ (bd.data.toList.take k).all (· == 0) = true) (fun i _ => bd.size - (intOf i).toNat)
    case atStart => exact ⟨by first | rfl | trivial, 0, Nat.zero_le _, rfl, rfl⟩
    case round =>
      obtain ⟨rfl, k, hk, rfl, hall⟩ := hrel
      have Hall := box hall
      clear hall
      by_cases hlt2 : k < bd.size
      · have hsn := box (all_snoc bd k hlt2 (· == 0))
        have hx := box (all_no bd k hlt2 (· == 0))
        by_cases hb : bd[k] = 0
        · have hb1 : (bd[k].toNat : Int) = 0 := by rw [hb]; rfl
          have hn := box (show (bd.data.toList.take (k + 1)).all (· == 0) = true by rw [hsn.out, Hall.out, hb]; rfl)
          go_wp2_with fail
          go_roundw
          case rel => exact ⟨by first | rfl | trivial, k + 1, by omega, by go_num, hn.out⟩
          case measure => simp [intOf]; omega
        · have hb1 : ¬ (bd[k].toNat : Int) = 0 := fun h => hb (UInt8.toNat_inj.1 (by have : bd[k].toNat = 0 := by omega
                                                                                     rw [this]; rfl))
          have hno := box (hx.out (by simp [hb]))
          go_wp2_with fail
          go_ret
          exact ⟨ret_bool (not_true_of Hr (fun h => by
            obtain ⟨_, ⟨h5, _⟩ | ⟨_, _, _, _, h5⟩⟩ := Hno.out h
            · exact Hk4.out h5
            · rw [hno.out] at h5; cases h5)), H0.out⟩
      · obtain rfl : k = bd.size := by omega
        have hz := box (show bd.data.toList.all (· == 0) = true by have := Hall.out; rwa [all_take bd bd.size (Nat.le_refl _)] at this)
        have hend : r = (decide (kd = 0) && decide (rf = 0) && decide (bn = 0) && decide ((bd.size : Int) ≤ 1024)) := by
          rw [← Hr.out, Bool.eq_iff_iff]
          simp only [Bool.and_eq_true, decide_eq_true_eq]
          constructor
          · intro h
            obtain ⟨_, ⟨h5, _⟩ | ⟨h5, h6, h7, h8, _⟩⟩ := Hno.out h
            · exact absurd h5 Hk4.out
            · exact ⟨⟨⟨h5, h6⟩, h7⟩, by omega⟩
          · rintro ⟨⟨⟨h5, h6⟩, h7⟩, h8⟩
            exact Hyes.out Hflat.out (.inr ⟨h5, h6, h7, by omega, hz.out⟩)
        have Hend := box hend
        clear hend
        go_wp2_with fail
        all_goals
          go_ret
          exact ⟨ret_bool (by rw [Hend.out]; simp_all), H0.out⟩
end Go.Proofs.Ytofffmnkoelifaa.rc

/- Layer 6: which records may be: all kinds. -/
namespace Go.Proofs.Ytofffmnkoelifaa.rc
open Go.ChangeShapes Go.WideShapes Go.ChangeAt Go.RowKit Go.Shelf
open Go.Proofs.Ytofffmnkoelifaa.nm Go.Proofs.Ytofffmnkoelifaa.vs

def zerosB (n : Nat) : ByteArray := ⟨(List.replicate n (0 : UInt8)).toArray⟩
theorem zerosB_size (n : Nat) : (zerosB n).size = n := by show (List.replicate n (0 : UInt8)).toArray.size = n; simp
theorem repeat_zero : ∀ n : Nat, Lib.repeatL [0] n = List.replicate n 0
  | 0 => rfl
  | n + 1 => by rw [Lib.repeatL, repeat_zero n, List.replicate_succ]; rfl
theorem zeros_iff (b : ByteArray) : b = zerosB b.size ↔ b.data.toList.all (· == 0) = true := by
  constructor
  · intro h
    rw [h]
    unfold zerosB
    simp
  · intro h
    apply ba_ext
    unfold zerosB
    simp only
    have : b.data.toList = List.replicate b.data.toList.length 0 := List.eq_replicate_iff.2 ⟨rfl, fun x hx => by have := List.all_eq_true.1 h x hx; simpa using this⟩
    rw [size_toList] at this
    exact this
theorem noughts_any (n : Nat) (w : World) (hn : n ≤ 140737488355328) : Calls Try.prog 57 #[.int .i64 n] w fun e w' => e = .returned (.string (zerosB n)) ∧ Calm w w' := by
  have H := box (Try.strings_Repeat ⟨#[0]⟩ n w (by omega) (by show 1 * n ≤ _; omega))
  rw [show (⟨#[0]⟩ : ByteArray).data.toList = [0] from rfl, repeat_zero] at H
  go_enter Try.func57, Try.ntmps57
  go_wp2_with fail
  refine H.out.mono ?_
  rintro e w1 ⟨rfl, hc⟩
  have Hc := box hc
  clear hc
  go_wp2_with fail
  go_ret
  exact ⟨rfl, Hc.out⟩
/-- A cancel's other fields are noughts. -/
theorem right4 {q du rt rf bn : Int} {tp tg bd : ByteArray} {ks : List ByteArray} (hn : numsB ⟨4, q, du, rt, rf, bn, tp, tg, bd, ks⟩ = true) : RightP ⟨4, q, du, rt, rf, bn, tp, tg, bd, ks⟩ ↔ (⟨4, q, du, rt, rf, bn, tp, tg, bd, ks⟩ : MsgS) = ⟨4, 0, 0, 0, rf, bn, ⟨#[]⟩, ⟨#[]⟩, ⟨#[]⟩, []⟩ := by
  rw [MsgS.eq_iff]
  unfold RightP
  simp only
  have hz : ∀ b : ByteArray, b.size = 0 ↔ b = ⟨#[]⟩ := fun b => ⟨fun h => ba_ext (List.eq_nil_of_length_eq_zero (by rw [size_toList]; exact h)), fun h => by rw [h]; rfl⟩
  simp only [hz, List.length_eq_zero_iff]
  constructor
  · rintro ⟨_, ⟨h, _⟩ | ⟨h, _⟩ | ⟨⟨h1, h2, h3, h4, h5, h6⟩, ⟨_, h7⟩ | ⟨h, _⟩⟩⟩
    · omega
    · omega
    · exact ⟨trivial, h1, h3, h2, trivial, trivial, h4, h5, h7, h6⟩
    · omega
  · rintro ⟨_, h1, h3, h2, _, _, h4, h5, h7, h6⟩
    exact ⟨hn, .inr (.inr ⟨⟨h1, h2, h3, h4, h5, h6⟩, .inl ⟨trivial, h7⟩⟩)⟩
theorem right0 {q du rt rf bn : Int} {tp tg bd : ByteArray} {ks : List ByteArray} (hn : numsB ⟨0, q, du, rt, rf, bn, tp, tg, bd, ks⟩ = true) : RightP ⟨0, q, du, rt, rf, bn, tp, tg, bd, ks⟩ ↔ bd.size ≤ 1024 ∧ bd = zerosB bd.size ∧ (⟨0, q, du, rt, rf, bn, tp, tg, bd, ks⟩ : MsgS) = ⟨0, 0, 0, 0, 0, 0, ⟨#[]⟩, ⟨#[]⟩, bd, []⟩ := by
  rw [MsgS.eq_iff, zeros_iff]
  unfold RightP
  simp only
  have hz : ∀ b : ByteArray, b.size = 0 ↔ b = ⟨#[]⟩ := fun b => ⟨fun h => ba_ext (List.eq_nil_of_length_eq_zero (by rw [size_toList]; exact h)), fun h => by rw [h]; rfl⟩
  simp only [hz, List.length_eq_zero_iff]
  constructor
  · rintro ⟨_, ⟨h, _⟩ | ⟨h, _⟩ | ⟨⟨h1, h2, h3, h4, h5, h6⟩, ⟨h, _⟩ | ⟨_, h7, h8, h9, h10⟩⟩⟩
    · omega
    · omega
    · omega
    · exact ⟨h9, h10, trivial, h1, h3, h2, h7, h8, h4, h5, trivial, h6⟩
  · rintro ⟨h9, h10, _, h1, h3, h2, h7, h8, h4, h5, _, h6⟩
    exact ⟨hn, .inr (.inr ⟨⟨h1, h2, h3, h4, h5, h6⟩, .inr ⟨trivial, h7, h8, h9, h10⟩⟩)⟩
set_option maxRecDepth 100000 in
set_option maxHeartbeats 8000000 in
/-- Kinds beside messages. -/
theorem Right_other (m : MsgS) (kv : Value) (w : World) (hk : StrsAt w kv m.keys) (hl : m.keys.length ≤ 1000000) (hz : m.body.size ≤ 140737488355328) (h3 : m.kind ≠ 1 ∧ m.kind ≠ 2 ∧ m.kind ≠ 3) :
    Calls Try.prog 41 #[.agg (msgA m kv)] w fun e w' => e = .returned (.bool (decide (RightP m))) ∧ Calm w w' := by
  have hsame := box (fun (b : MsgS) (kb : Value) W (hW : Calm w W) (hb : StrsAt W kb b.keys) (lb : b.keys.length ≤ 1000000) => Same_any m b kv kb W (hk.calm hW) hb hl lb)
  obtain ⟨kd, q, du, rt, rf, bn, tp, tg, bd, ks⟩ := m
  simp only at hk hl h3 hz
  obtain ⟨h31, h32, h33⟩ := h3
  obtain ⟨r, hr⟩ : ∃ r, decide (RightP ⟨kd, q, du, rt, rf, bn, tp, tg, bd, ks⟩) = r := ⟨_, rfl⟩
  rw [hr]
  have Hr := box hr
  clear hr
  obtain ⟨ka, kcap, rfl, _⟩ := hk.uni
  obtain ⟨W1, hW1⟩ : ∃ W1, w.alloc (.cells (msgA ⟨kd, q, du, rt, rf, bn, tp, tg, bd, ks⟩ (.slice ka ks.length kcap)) 33) = W1 := ⟨_, rfl⟩
  obtain ⟨W2, hW2⟩ : ∃ W2, W1.alloc (.cells #[.int .i64 du, .int .i64 rf, .int .i64 bn] 3) = W2 := ⟨_, rfl⟩
  have Hn := box (show W1.heap[w.heap.size]? = some (.cells (msgA ⟨kd, q, du, rt, rf, bn, tp, tg, bd, ks⟩ (.slice ka ks.length kcap)) 33 (0, 0)) by rw [← hW1]; exact heap_new w _)
  have H0 := box (show Calm w W1 by rw [← hW1]; exact (Calm.refl w).alloc _)
  have H1 := box (show Calm W1 W2 by rw [← hW2]; exact (Calm.refl W1).alloc _)
  have hnum := box (nums_any W1.heap.size du rf bn W2 (by rw [← hW2]; exact heap_new W1 _))
  have H2 := box (heap_calm H1.out Hn.out)
  clear hk hl
  have c2 := cell_of Hn.out 2
  have c4 := cell_of Hn.out 4
  have c5 := cell_of Hn.out 5
  have hlt := heap_lt Hn.out
  go_enter Try.func41, Try.ntmps41
  go_wp2_with fail
  clear hW1 hW2 c2 c4 c5 hlt
  refine hnum.out.mono ?_
  rintro e w1 ⟨rfl, hc1⟩
  have C1 := box (H0.out.trans (H1.out.trans hc1))
  have J1 := box (heap_calm hc1 H2.out)
  clear hc1
  have c0 := cell_of J1.out 0
  have c1 := cell_of J1.out 1
  have c2 := cell_of J1.out 2
  have c3 := cell_of J1.out 3
  have c4 := cell_of J1.out 4
  have c5 := cell_of J1.out 5
  have c6 := cell_of J1.out 6
  have c7 := cell_of J1.out 7
  have c8 := cell_of J1.out 8
  have c9 := cell_of J1.out 9
  have hlt := heap_lt J1.out
  cases hnb : (numB du && numB rf && numB bn)
  · go_wp2_with fail
    go_ret
    exact ⟨ret_bool (not_true_of Hr (fun h => by have := h.1; unfold numsB at this; simp only at this; rw [hnb] at this; cases this)), C1.out⟩
  have Hnb := box (show numsB ⟨kd, q, du, rt, rf, bn, tp, tg, bd, ks⟩ = true from hnb)
  clear hnb
  by_cases h4 : kd = 4
  · subst h4
    have hsam := box (hsame.out ⟨4, 0, 0, 0, rf, bn, ⟨#[]⟩, ⟨#[]⟩, ⟨#[]⟩, []⟩ (.slice none 0 0) w1 C1.out (.inl ⟨rfl, none, 0, rfl⟩) (by simp))
    rw [decide_eq_decide.2 (right4 Hnb.out).symm, Hr.out] at hsam
    go_wp2_with fail
    refine hsam.out.mono ?_
    rintro e w2 ⟨rfl, hc2⟩
    have C2 := box (C1.out.trans hc2)
    clear hc2
    go_wp2_with fail
    go_ret
    exact ⟨rfl, C2.out⟩
  have e1 : (kd == 1) = false := beq_eq_false_iff_ne.2 h31
  have e2 : (kd == 2) = false := beq_eq_false_iff_ne.2 h32
  have e3 : (kd == 3) = false := beq_eq_false_iff_ne.2 h33
  have e4 : (kd == 4) = false := beq_eq_false_iff_ne.2 h4
  by_cases h0 : kd = 0
  · subst h0
    by_cases h1024 : 1024 < bd.size
    · have ht : decide ((bd.size : Int) ≤ 1024) = false := decide_eq_false (by omega)
      go_wp2_with (first | go_quiet (fail) | fail)
      go_wp2_with fail
      go_ret
      exact ⟨ret_bool (not_true_of Hr (fun h => by have := ((right0 Hnb.out).1 h).1; omega)), C1.out.drewN _⟩
    have ht : decide ((bd.size : Int) ≤ 1024) = true := decide_eq_true (by omega)
    by_cases hzz : bd = zerosB bd.size
    · have hze : (bd.toList == (zerosB bd.size).toList) = true := by rw [← hzz]; simp
      have hsam := box (fun (W : World) (hW : Calm w W) => hsame.out ⟨0, 0, 0, 0, 0, 0, ⟨#[]⟩, ⟨#[]⟩, bd, []⟩ (.slice none 0 0) W hW (.inl ⟨rfl, none, 0, rfl⟩) (by simp))
      have hiff : decide ((⟨0, q, du, rt, rf, bn, tp, tg, bd, ks⟩ : MsgS) = ⟨0, 0, 0, 0, 0, 0, ⟨#[]⟩, ⟨#[]⟩, bd, []⟩) = r := by
        rw [← Hr.out]
        exact decide_eq_decide.2 ⟨fun h => (right0 Hnb.out).2 ⟨by omega, hzz, h⟩, fun h => ((right0 Hnb.out).1 h).2.2⟩
      rw [hiff] at hsam
      clear hiff hzz h1024
      go_wp2_with fail
      refine wp_region_held_drew (S := fun w' => w'.cell? ⟨w.heap.size, 0, none⟩ = some (.int .i64 0) ∧ w'.cell? ⟨w.heap.size, 1, none⟩ = some (.int .i64 q) ∧ w'.cell? ⟨w.heap.size, 2, none⟩ = some (.int .i64 du) ∧ w'.cell? ⟨w.heap.size, 3, none⟩ = some (.int .i64 rt) ∧ w'.cell? ⟨w.heap.size, 4, none⟩ = some (.int .i64 rf) ∧ w'.cell? ⟨w.heap.size, 5, none⟩ = some (.int .i64 bn) ∧ w'.cell? ⟨w.heap.size, 6, none⟩ = some (.string tp) ∧ w'.cell? ⟨w.heap.size, 7, none⟩ = some (.string tg) ∧ w'.cell? ⟨w.heap.size, 8, none⟩ = some (.string bd) ∧ w'.cell? ⟨w.heap.size, 9, none⟩ = some (.slice ka ks.length kcap)) (by kernel_rfl) (by go_keep) (fun hHeld => ?_)
      ((refine' wpAnyH_take (i := 0) (v := _) rfl (by kernel_rfl) (by kernel_rfl) (by kernel_rfl) (fun _ _ _ h => h) (Or.inl ⟨by rfl, ?hy1⟩) (by assumption) ?rest1; (case hy1 => (intro w hSw; (try dsimp only at hSw); go_simp <;> with_reducible rfl)); simp only [List.getElem_toArray, List.getElem_cons_succ, List.getElem_cons_zero, Act.put, List.setIfInBounds_toArray, List.set_cons_zero, List.set_cons_succ]); (refine' wpAnyH_take (i := 1) (v := _) rfl (by kernel_rfl) (by kernel_rfl) (by kernel_rfl) (fun _ _ _ h => h) (Or.inl ⟨by rfl, ?hy2⟩) (by assumption) ?rest2; (case hy2 => (intro w hSw; (try dsimp only at hSw); go_simp <;> with_reducible rfl)); simp only [List.getElem_toArray, List.getElem_cons_succ, List.getElem_cons_zero, Act.put, List.setIfInBounds_toArray, List.set_cons_zero, List.set_cons_succ]); (refine' wpAnyH_take (i := 2) (v := _) rfl (by kernel_rfl) (by kernel_rfl) (by kernel_rfl) (fun _ _ _ h => h) (Or.inl ⟨by rfl, ?hy3⟩) (by assumption) ?rest3; (case hy3 => (intro w hSw; (try dsimp only at hSw); go_simp <;> with_reducible rfl)); simp only [List.getElem_toArray, List.getElem_cons_succ, List.getElem_cons_zero, Act.put, List.setIfInBounds_toArray, List.set_cons_zero, List.set_cons_succ]); (refine' wpAnyH_take (i := 3) (v := _) rfl (by kernel_rfl) (by kernel_rfl) (by kernel_rfl) (fun _ _ _ h => h) (Or.inl ⟨by rfl, ?hy4⟩) (by assumption) ?rest4; (case hy4 => (intro w hSw; (try dsimp only at hSw); go_simp <;> with_reducible rfl)); simp only [List.getElem_toArray, List.getElem_cons_succ, List.getElem_cons_zero, Act.put, List.setIfInBounds_toArray, List.set_cons_zero, List.set_cons_succ]); (refine' wpAnyH_take (i := 4) (v := _) rfl (by kernel_rfl) (by kernel_rfl) (by kernel_rfl) (fun _ _ _ h => h) (Or.inl ⟨by rfl, ?hy5⟩) (by assumption) ?rest5; (case hy5 => (intro w hSw; (try dsimp only at hSw); go_simp <;> with_reducible rfl)); simp only [List.getElem_toArray, List.getElem_cons_succ, List.getElem_cons_zero, Act.put, List.setIfInBounds_toArray, List.set_cons_zero, List.set_cons_succ]); (refine' wpAnyH_take (i := 5) (v := _) rfl (by kernel_rfl) (by kernel_rfl) (by kernel_rfl) (fun _ _ _ h => h) (Or.inl ⟨by rfl, ?hy6⟩) (by assumption) ?rest6; (case hy6 => (intro w hSw; (try dsimp only at hSw); go_simp <;> with_reducible rfl)); simp only [List.getElem_toArray, List.getElem_cons_succ, List.getElem_cons_zero, Act.put, List.setIfInBounds_toArray, List.set_cons_zero, List.set_cons_succ]); (refine' wpAnyH_take (i := 6) (v := _) rfl (by kernel_rfl) (by kernel_rfl) (by kernel_rfl) (fun _ _ _ h => h) (Or.inl ⟨by rfl, ?hy7⟩) (by assumption) ?rest7; (case hy7 => (intro w hSw; (try dsimp only at hSw); go_simp <;> with_reducible rfl)); simp only [List.getElem_toArray, List.getElem_cons_succ, List.getElem_cons_zero, Act.put, List.setIfInBounds_toArray, List.set_cons_zero, List.set_cons_succ]); (refine' wpAnyH_take (i := 7) (v := _) rfl (by kernel_rfl) (by kernel_rfl) (by kernel_rfl) (fun _ _ _ h => h) (Or.inl ⟨by rfl, ?hy8⟩) (by assumption) ?rest8; (case hy8 => (intro w hSw; (try dsimp only at hSw); go_simp <;> with_reducible rfl)); simp only [List.getElem_toArray, List.getElem_cons_succ, List.getElem_cons_zero, Act.put, List.setIfInBounds_toArray, List.set_cons_zero, List.set_cons_succ]); (refine' wpAnyH_take (i := 8) (v := _) rfl (by kernel_rfl) (by kernel_rfl) (by kernel_rfl) (fun _ _ _ h => h) (Or.inl ⟨by rfl, ?hy9⟩) (by assumption) ?rest9; (case hy9 => (intro w hSw; (try dsimp only at hSw); go_simp <;> with_reducible rfl)); simp only [List.getElem_toArray, List.getElem_cons_succ, List.getElem_cons_zero, Act.put, List.setIfInBounds_toArray, List.set_cons_zero, List.set_cons_succ]); (refine' wpAnyH_take (i := 9) (v := _) rfl (by kernel_rfl) (by kernel_rfl) (by kernel_rfl) (fun _ _ _ h => h) (Or.inl ⟨by rfl, ?hy10⟩) (by assumption) ?rest10; (case hy10 => (intro w hSw; (try dsimp only at hSw); go_simp <;> with_reducible rfl)); simp only [List.getElem_toArray, List.getElem_cons_succ, List.getElem_cons_zero, Act.put, List.setIfInBounds_toArray, List.set_cons_zero, List.set_cons_succ]))
      refine wpAnyH_ready (rs := [10]) (by kernel_rfl) (by simp) ?_
      refine AllReadyH.cons rfl (fun K hK => ?_) AllReadyH.nil
      rw [if_pos (by rfl)]
      go_simp
      refine (noughts_any bd.size _ hz).mono ?_
      rintro e w2 ⟨rfl, hb⟩
      go_wp2_with fail
      have J2 := box (heap_calm hb J1.out)
      have C2 := box (C1.out.trans ((show Calm w1 _ by (repeat' (first | (with_reducible exact Calm.refl _) | (with_reducible assumption) | (with_reducible refine Calm.drew ?_) | (with_reducible refine Calm.alloc ?_ _) | (with_reducible refine Calm.trans ?_ (by assumption))))).trans hb))
      refine hK.out _ _ ⟨cell_of J2.out 0, cell_of J2.out 1, cell_of J2.out 2, cell_of J2.out 3, cell_of J2.out 4, cell_of J2.out 5, cell_of J2.out 6, cell_of J2.out 7, cell_of J2.out 8, cell_of J2.out 9⟩ (fun hHeld2 => ?_)
      clear hK K hb
      try simp only [List.getElem_toArray, List.getElem_cons_succ, List.getElem_cons_zero, Act.put, List.setIfInBounds_toArray, List.set_cons_zero, List.set_cons_succ]
      ((refine' wpAnyH_take (i := 11) (v := _) rfl (by kernel_rfl) (by kernel_rfl) (by kernel_rfl) (fun _ _ _ h => h) (Or.inl ⟨by rfl, ?hy11⟩) (by assumption) ?rest11; (case hy11 => (intro w hSw; (try dsimp only at hSw); go_simp <;> with_reducible rfl)); simp only [List.getElem_toArray, List.getElem_cons_succ, List.getElem_cons_zero, Act.put, List.setIfInBounds_toArray, List.set_cons_zero, List.set_cons_succ]); (refine' wpAnyH_take (i := 12) (v := _) rfl (by kernel_rfl) (by kernel_rfl) (by kernel_rfl) (fun _ _ _ h => h) (Or.inl ⟨by rfl, ?hy12⟩) (by assumption) ?rest12; (case hy12 => (intro w hSw; (try dsimp only at hSw); go_simp <;> with_reducible rfl)); simp only [List.getElem_toArray, List.getElem_cons_succ, List.getElem_cons_zero, Act.put, List.setIfInBounds_toArray, List.set_cons_zero, List.set_cons_succ]); (refine' wpAnyH_take (i := 13) (v := _) rfl (by kernel_rfl) (by kernel_rfl) (by kernel_rfl) (fun _ _ _ h => h) (Or.inl ⟨by rfl, ?hy13⟩) (by assumption) ?rest13; (case hy13 => (intro w hSw; (try dsimp only at hSw); go_simp <;> with_reducible rfl)); simp only [List.getElem_toArray, List.getElem_cons_succ, List.getElem_cons_zero, Act.put, List.setIfInBounds_toArray, List.set_cons_zero, List.set_cons_succ]); (refine' wpAnyH_take (i := 14) (v := _) rfl (by kernel_rfl) (by kernel_rfl) (by kernel_rfl) (fun _ _ _ h => h) (Or.inl ⟨by rfl, ?hy14⟩) (by assumption) ?rest14; (case hy14 => (intro w hSw; (try dsimp only at hSw); go_simp <;> with_reducible rfl)); simp only [List.getElem_toArray, List.getElem_cons_succ, List.getElem_cons_zero, Act.put, List.setIfInBounds_toArray, List.set_cons_zero, List.set_cons_succ]); (refine' wpAnyH_take (i := 15) (v := _) rfl (by kernel_rfl) (by kernel_rfl) (by kernel_rfl) (fun _ _ _ h => h) (Or.inl ⟨by rfl, ?hy15⟩) (by assumption) ?rest15; (case hy15 => (intro w hSw; (try dsimp only at hSw); go_simp <;> with_reducible rfl)); simp only [List.getElem_toArray, List.getElem_cons_succ, List.getElem_cons_zero, Act.put, List.setIfInBounds_toArray, List.set_cons_zero, List.set_cons_succ]); (refine' wpAnyH_take (i := 16) (v := _) rfl (by kernel_rfl) (by kernel_rfl) (by kernel_rfl) (fun _ _ _ h => h) (Or.inl ⟨by rfl, ?hy16⟩) (by assumption) ?rest16; (case hy16 => (intro w hSw; (try dsimp only at hSw); go_simp <;> with_reducible rfl)); simp only [List.getElem_toArray, List.getElem_cons_succ, List.getElem_cons_zero, Act.put, List.setIfInBounds_toArray, List.set_cons_zero, List.set_cons_succ]); (refine' wpAnyH_take (i := 17) (v := _) rfl (by kernel_rfl) (by kernel_rfl) (by kernel_rfl) (fun _ _ _ h => h) (Or.inl ⟨by rfl, ?hy17⟩) (by assumption) ?rest17; (case hy17 => (intro w hSw; (try dsimp only at hSw); go_simp <;> with_reducible rfl)); simp only [List.getElem_toArray, List.getElem_cons_succ, List.getElem_cons_zero, Act.put, List.setIfInBounds_toArray, List.set_cons_zero, List.set_cons_succ]))
      refine wpAnyH_ready (rs := [18]) (by kernel_rfl) (by simp) ?_
      refine AllReadyH.cons rfl (fun K hK => ?_) AllReadyH.nil
      rw [if_pos (by rfl)]
      go_simp
      refine (hsam.out _ C2.out).mono ?_
      rintro e w3 ⟨rfl, hb⟩
      go_wp2_with fail
      have J3 := box (heap_calm hb J2.out)
      have C3 := box (C2.out.trans hb)
      refine hK.out _ _ ⟨cell_of J3.out 0, cell_of J3.out 1, cell_of J3.out 2, cell_of J3.out 3, cell_of J3.out 4, cell_of J3.out 5, cell_of J3.out 6, cell_of J3.out 7, cell_of J3.out 8, cell_of J3.out 9⟩ (fun hHeld3 => ?_)
      clear hK K hb
      try simp only [List.getElem_toArray, List.getElem_cons_succ, List.getElem_cons_zero, Act.put, List.setIfInBounds_toArray, List.set_cons_zero, List.set_cons_succ]
      ((refine' wpAnyH_take (i := 19) (v := _) rfl (by kernel_rfl) (by kernel_rfl) (by kernel_rfl) (fun _ _ _ h => h) (Or.inl ⟨by rfl, ?hy18⟩) (by assumption) ?rest18; (case hy18 => (intro w hSw; (try dsimp only at hSw); go_simp <;> with_reducible rfl)); simp only [List.getElem_toArray, List.getElem_cons_succ, List.getElem_cons_zero, Act.put, List.setIfInBounds_toArray, List.set_cons_zero, List.set_cons_succ]); (refine' wpAnyH_take (i := 20) (v := _) rfl (by kernel_rfl) (by kernel_rfl) (by kernel_rfl) (fun _ _ _ h => h) (Or.inl ⟨by rfl, ?hy19⟩) (by assumption) ?rest19; (case hy19 => (intro w hSw; (try dsimp only at hSw); go_simp <;> with_reducible rfl)); simp only [List.getElem_toArray, List.getElem_cons_succ, List.getElem_cons_zero, Act.put, List.setIfInBounds_toArray, List.set_cons_zero, List.set_cons_succ]))
      refine wpAnyH_done (by kernel_rfl) ?_ _
      go_wp2_with fail
      go_ret
      exact ⟨rfl, C3.out⟩
    · have hze : (bd.toList == (zerosB bd.size).toList) = false := beq_eq_false_iff_ne.2 (fun e => hzz (ba_ext (by rw [← Lib.toList_data, ← Lib.toList_data]; exact e)))
      go_wp2_with fail
      refine wp_region_held_drew (S := fun w' => w'.cell? ⟨w.heap.size, 0, none⟩ = some (.int .i64 0) ∧ w'.cell? ⟨w.heap.size, 1, none⟩ = some (.int .i64 q) ∧ w'.cell? ⟨w.heap.size, 2, none⟩ = some (.int .i64 du) ∧ w'.cell? ⟨w.heap.size, 3, none⟩ = some (.int .i64 rt) ∧ w'.cell? ⟨w.heap.size, 4, none⟩ = some (.int .i64 rf) ∧ w'.cell? ⟨w.heap.size, 5, none⟩ = some (.int .i64 bn) ∧ w'.cell? ⟨w.heap.size, 6, none⟩ = some (.string tp) ∧ w'.cell? ⟨w.heap.size, 7, none⟩ = some (.string tg) ∧ w'.cell? ⟨w.heap.size, 8, none⟩ = some (.string bd) ∧ w'.cell? ⟨w.heap.size, 9, none⟩ = some (.slice ka ks.length kcap)) (by kernel_rfl) (by go_keep) (fun hHeld => ?_)
      ((refine' wpAnyH_take (i := 0) (v := _) rfl (by kernel_rfl) (by kernel_rfl) (by kernel_rfl) (fun _ _ _ h => h) (Or.inl ⟨by rfl, ?hy20⟩) (by assumption) ?rest20; (case hy20 => (intro w hSw; (try dsimp only at hSw); go_simp <;> with_reducible rfl)); simp only [List.getElem_toArray, List.getElem_cons_succ, List.getElem_cons_zero, Act.put, List.setIfInBounds_toArray, List.set_cons_zero, List.set_cons_succ]); (refine' wpAnyH_take (i := 1) (v := _) rfl (by kernel_rfl) (by kernel_rfl) (by kernel_rfl) (fun _ _ _ h => h) (Or.inl ⟨by rfl, ?hy21⟩) (by assumption) ?rest21; (case hy21 => (intro w hSw; (try dsimp only at hSw); go_simp <;> with_reducible rfl)); simp only [List.getElem_toArray, List.getElem_cons_succ, List.getElem_cons_zero, Act.put, List.setIfInBounds_toArray, List.set_cons_zero, List.set_cons_succ]); (refine' wpAnyH_take (i := 2) (v := _) rfl (by kernel_rfl) (by kernel_rfl) (by kernel_rfl) (fun _ _ _ h => h) (Or.inl ⟨by rfl, ?hy22⟩) (by assumption) ?rest22; (case hy22 => (intro w hSw; (try dsimp only at hSw); go_simp <;> with_reducible rfl)); simp only [List.getElem_toArray, List.getElem_cons_succ, List.getElem_cons_zero, Act.put, List.setIfInBounds_toArray, List.set_cons_zero, List.set_cons_succ]); (refine' wpAnyH_take (i := 3) (v := _) rfl (by kernel_rfl) (by kernel_rfl) (by kernel_rfl) (fun _ _ _ h => h) (Or.inl ⟨by rfl, ?hy23⟩) (by assumption) ?rest23; (case hy23 => (intro w hSw; (try dsimp only at hSw); go_simp <;> with_reducible rfl)); simp only [List.getElem_toArray, List.getElem_cons_succ, List.getElem_cons_zero, Act.put, List.setIfInBounds_toArray, List.set_cons_zero, List.set_cons_succ]); (refine' wpAnyH_take (i := 4) (v := _) rfl (by kernel_rfl) (by kernel_rfl) (by kernel_rfl) (fun _ _ _ h => h) (Or.inl ⟨by rfl, ?hy24⟩) (by assumption) ?rest24; (case hy24 => (intro w hSw; (try dsimp only at hSw); go_simp <;> with_reducible rfl)); simp only [List.getElem_toArray, List.getElem_cons_succ, List.getElem_cons_zero, Act.put, List.setIfInBounds_toArray, List.set_cons_zero, List.set_cons_succ]); (refine' wpAnyH_take (i := 5) (v := _) rfl (by kernel_rfl) (by kernel_rfl) (by kernel_rfl) (fun _ _ _ h => h) (Or.inl ⟨by rfl, ?hy25⟩) (by assumption) ?rest25; (case hy25 => (intro w hSw; (try dsimp only at hSw); go_simp <;> with_reducible rfl)); simp only [List.getElem_toArray, List.getElem_cons_succ, List.getElem_cons_zero, Act.put, List.setIfInBounds_toArray, List.set_cons_zero, List.set_cons_succ]); (refine' wpAnyH_take (i := 6) (v := _) rfl (by kernel_rfl) (by kernel_rfl) (by kernel_rfl) (fun _ _ _ h => h) (Or.inl ⟨by rfl, ?hy26⟩) (by assumption) ?rest26; (case hy26 => (intro w hSw; (try dsimp only at hSw); go_simp <;> with_reducible rfl)); simp only [List.getElem_toArray, List.getElem_cons_succ, List.getElem_cons_zero, Act.put, List.setIfInBounds_toArray, List.set_cons_zero, List.set_cons_succ]); (refine' wpAnyH_take (i := 7) (v := _) rfl (by kernel_rfl) (by kernel_rfl) (by kernel_rfl) (fun _ _ _ h => h) (Or.inl ⟨by rfl, ?hy27⟩) (by assumption) ?rest27; (case hy27 => (intro w hSw; (try dsimp only at hSw); go_simp <;> with_reducible rfl)); simp only [List.getElem_toArray, List.getElem_cons_succ, List.getElem_cons_zero, Act.put, List.setIfInBounds_toArray, List.set_cons_zero, List.set_cons_succ]); (refine' wpAnyH_take (i := 8) (v := _) rfl (by kernel_rfl) (by kernel_rfl) (by kernel_rfl) (fun _ _ _ h => h) (Or.inl ⟨by rfl, ?hy28⟩) (by assumption) ?rest28; (case hy28 => (intro w hSw; (try dsimp only at hSw); go_simp <;> with_reducible rfl)); simp only [List.getElem_toArray, List.getElem_cons_succ, List.getElem_cons_zero, Act.put, List.setIfInBounds_toArray, List.set_cons_zero, List.set_cons_succ]); (refine' wpAnyH_take (i := 9) (v := _) rfl (by kernel_rfl) (by kernel_rfl) (by kernel_rfl) (fun _ _ _ h => h) (Or.inl ⟨by rfl, ?hy29⟩) (by assumption) ?rest29; (case hy29 => (intro w hSw; (try dsimp only at hSw); go_simp <;> with_reducible rfl)); simp only [List.getElem_toArray, List.getElem_cons_succ, List.getElem_cons_zero, Act.put, List.setIfInBounds_toArray, List.set_cons_zero, List.set_cons_succ]))
      refine wpAnyH_ready (rs := [10]) (by kernel_rfl) (by simp) ?_
      refine AllReadyH.cons rfl (fun K hK => ?_) AllReadyH.nil
      rw [if_pos (by rfl)]
      go_simp
      refine (noughts_any bd.size _ hz).mono ?_
      rintro e w2 ⟨rfl, hb⟩
      go_wp2_with fail
      have J2 := box (heap_calm hb J1.out)
      have C2 := box (C1.out.trans ((show Calm w1 _ by (repeat' (first | (with_reducible exact Calm.refl _) | (with_reducible assumption) | (with_reducible refine Calm.drew ?_) | (with_reducible refine Calm.alloc ?_ _) | (with_reducible refine Calm.trans ?_ (by assumption))))).trans hb))
      refine hK.out _ _ ⟨cell_of J2.out 0, cell_of J2.out 1, cell_of J2.out 2, cell_of J2.out 3, cell_of J2.out 4, cell_of J2.out 5, cell_of J2.out 6, cell_of J2.out 7, cell_of J2.out 8, cell_of J2.out 9⟩ (fun hHeld2 => ?_)
      clear hK K hb
      try simp only [List.getElem_toArray, List.getElem_cons_succ, List.getElem_cons_zero, Act.put, List.setIfInBounds_toArray, List.set_cons_zero, List.set_cons_succ]
      ((refine' wpAnyH_take (i := 11) (v := _) rfl (by kernel_rfl) (by kernel_rfl) (by kernel_rfl) (fun _ _ _ h => h) (Or.inl ⟨by rfl, ?hy30⟩) (by assumption) ?rest30; (case hy30 => (intro w hSw; (try dsimp only at hSw); go_simp <;> with_reducible rfl)); simp only [List.getElem_toArray, List.getElem_cons_succ, List.getElem_cons_zero, Act.put, List.setIfInBounds_toArray, List.set_cons_zero, List.set_cons_succ]); (refine' wpAnyH_take (i := 12) (v := _) rfl (by kernel_rfl) (by kernel_rfl) (by kernel_rfl) (fun _ _ _ h => h) (Or.inl ⟨by rfl, ?hy31⟩) (by assumption) ?rest31; (case hy31 => (intro w hSw; (try dsimp only at hSw); go_simp <;> with_reducible rfl)); simp only [List.getElem_toArray, List.getElem_cons_succ, List.getElem_cons_zero, Act.put, List.setIfInBounds_toArray, List.set_cons_zero, List.set_cons_succ]); (refine' wpAnyH_take (i := 13) (v := _) rfl (by kernel_rfl) (by kernel_rfl) (by kernel_rfl) (fun _ _ _ h => h) (Or.inl ⟨by rfl, ?hy32⟩) (by assumption) ?rest32; (case hy32 => (intro w hSw; (try dsimp only at hSw); go_simp <;> with_reducible rfl)); simp only [List.getElem_toArray, List.getElem_cons_succ, List.getElem_cons_zero, Act.put, List.setIfInBounds_toArray, List.set_cons_zero, List.set_cons_succ]))
      ((refine' wpAnyH_take (i := 14) (v := _) rfl (by kernel_rfl) (by kernel_rfl) (by kernel_rfl) (fun _ _ _ h => h) (Or.inr ⟨by rfl, rfl⟩) (by assumption) ?rest33; simp only [List.getElem_toArray, List.getElem_cons_succ, List.getElem_cons_zero, Act.put, List.setIfInBounds_toArray, List.set_cons_zero, List.set_cons_succ]); (refine' wpAnyH_take (i := 15) (v := _) rfl (by kernel_rfl) (by kernel_rfl) (by kernel_rfl) (fun _ _ _ h => h) (Or.inr ⟨by rfl, rfl⟩) (by assumption) ?rest34; simp only [List.getElem_toArray, List.getElem_cons_succ, List.getElem_cons_zero, Act.put, List.setIfInBounds_toArray, List.set_cons_zero, List.set_cons_succ]); (refine' wpAnyH_take (i := 16) (v := _) rfl (by kernel_rfl) (by kernel_rfl) (by kernel_rfl) (fun _ _ _ h => h) (Or.inr ⟨by rfl, rfl⟩) (by assumption) ?rest35; simp only [List.getElem_toArray, List.getElem_cons_succ, List.getElem_cons_zero, Act.put, List.setIfInBounds_toArray, List.set_cons_zero, List.set_cons_succ]); (refine' wpAnyH_take (i := 17) (v := _) rfl (by kernel_rfl) (by kernel_rfl) (by kernel_rfl) (fun _ _ _ h => h) (Or.inr ⟨by rfl, rfl⟩) (by assumption) ?rest36; simp only [List.getElem_toArray, List.getElem_cons_succ, List.getElem_cons_zero, Act.put, List.setIfInBounds_toArray, List.set_cons_zero, List.set_cons_succ]); (refine' wpAnyH_take (i := 18) (v := _) rfl (by kernel_rfl) (by kernel_rfl) (by kernel_rfl) (fun _ _ _ h => h) (Or.inr ⟨by rfl, rfl⟩) (by assumption) ?rest37; simp only [List.getElem_toArray, List.getElem_cons_succ, List.getElem_cons_zero, Act.put, List.setIfInBounds_toArray, List.set_cons_zero, List.set_cons_succ]))
      ((refine' wpAnyH_take (i := 19) (v := _) rfl (by kernel_rfl) (by kernel_rfl) (by kernel_rfl) (fun _ _ _ h => h) (Or.inl ⟨by rfl, ?hy38⟩) (by assumption) ?rest38; (case hy38 => (intro w hSw; (try dsimp only at hSw); go_simp <;> with_reducible rfl)); simp only [List.getElem_toArray, List.getElem_cons_succ, List.getElem_cons_zero, Act.put, List.setIfInBounds_toArray, List.set_cons_zero, List.set_cons_succ]); (refine' wpAnyH_take (i := 20) (v := _) rfl (by kernel_rfl) (by kernel_rfl) (by kernel_rfl) (fun _ _ _ h => h) (Or.inl ⟨by rfl, ?hy39⟩) (by assumption) ?rest39; (case hy39 => (intro w hSw; (try dsimp only at hSw); go_simp <;> with_reducible rfl)); simp only [List.getElem_toArray, List.getElem_cons_succ, List.getElem_cons_zero, Act.put, List.setIfInBounds_toArray, List.set_cons_zero, List.set_cons_succ]))
      refine wpAnyH_done (by kernel_rfl) ?_ _
      go_wp2_with fail
      go_ret
      exact ⟨ret_bool (not_true_of Hr (fun h => hzz ((right0 Hnb.out).1 h).2.1)), C2.out⟩
  · have e0 : (kd == 0) = false := beq_eq_false_iff_ne.2 h0
    go_wp2_with fail
    go_ret
    exact ⟨ret_bool (not_true_of Hr (fun h => by
      obtain ⟨_, ⟨h, _⟩ | ⟨h, _⟩ | ⟨_, ⟨h, _⟩ | ⟨h, _⟩⟩⟩ := h
      all_goals simp only at h; omega)), C1.out⟩
end Go.Proofs.Ytofffmnkoelifaa.rc

/- Layer 12: what comes of a message of any kind that failed. -/
namespace Go.Proofs.Ytofffmnkoelifaa.rc
open Go.ChangeShapes Go.WideShapes Go.ChangeAt Go.RowKit Go.Shelf
open Go.Proofs.Ytofffmnkoelifaa.nm Go.Proofs.Ytofffmnkoelifaa.vs

def PairR (k : IntKind) : Reads (Int × Int) := fun _ cs x => cs = [.int k x.1, .int k x.2] ∧ (k.min ≤ x.1 ∧ x.1 ≤ k.max) ∧ k.min ≤ x.2 ∧ x.2 ≤ k.max
theorem PairR.lasts (k : IntKind) : (PairR k).Lasts := fun _ _ _ _ h _ => h
theorem opens_pair {P : Program} {t e : TypeId} {k : IntKind} (ht : P.underlying t = some (.array 2 e)) (he : P.underlying e = some (.int k)) (hc : P.cellsOf e = 1) (hc2 : P.cellsOf t = 2) : Opens P t (PairR k) := fun H enc w base sp held fuel cs x h => by
  obtain ⟨xs, m, _, _, hlen, hxl, hg⟩ := DataW.trod_array ht h
  rw [hc2] at hlen
  rw [hc] at hg
  match cs, hlen with
  | [c0, c1], _ =>
    have g0 := hg 0 (by decide)
    have g1 := hg 1 (by decide)
    rw [List.getElem?_eq_getElem (by omega)] at g0 g1
    obtain ⟨a, ha, ha2⟩ := opens_int he _ _ _ _ _ _ _ _ _ g0
    obtain ⟨b, hb, hb2⟩ := opens_int he _ _ _ _ _ _ _ _ _ g1
    simp at ha hb
    exact ⟨(a, b), by rw [ha, hb], ha2, hb2⟩
theorem array_shape {P : Program} {w : World} {r : Reach} {b : Nat} {t e : TypeId} {n : Nat} {v : Value} (ht : P.underlying t = some (.array n e)) (h : Value.okWide P w r b t v) : ∃ cs, v = .agg cs := by
  simp only [Value.okWide, ht] at h
  obtain ⟨cs, h1, _⟩ := h
  exact ⟨cs, h1⟩
theorem pair_arg {w : World} {v : Value} {k : IntKind} (hv : ∃ cs, v = .agg cs) (h : ∃ y, PairR k w v.cells.toList y) : ∃ y : Int × Int, v = .agg #[.int k y.1, .int k y.2] ∧ PairR k w v.cells.toList y := by
  obtain ⟨cs, rfl⟩ := hv
  obtain ⟨y, hy⟩ := h
  refine ⟨y, ?_, hy⟩
  have := hy.1
  simp only [Value.cells] at this
  rw [show cs = #[.int k y.1, .int k y.2] from Array.toList_inj.1 this]
/-- May it come again? (A message of any kind.) -/
def AgainP (m : MsgS) (id : Int) (g : ByteArray) (now : Int) : Prop := groupB g = true ∧ RightP m ∧ (m.kind = 1 ∨ m.kind = 3) ∧ timeB id = true ∧ timeB now = true
instance (m : MsgS) (id : Int) (g : ByteArray) (now : Int) : Decidable (AgainP m id g now) := by unfold AgainP; exact inferInstance
def AllDone (m : MsgS) (id : Int) (g : ByteArray) (now : Int) (w : World) (e : Ending) (w' : World) : Prop :=
  ∃ v c, e = .returned (.tuple #[v, .int .i64 c]) ∧ Calm w w' ∧ (¬ AgainP m id g now → c = (if groupB g then 1 else 11) ∧ v = .agg zeroA) ∧ (AgainP m id g now → c = 0 ∧ ∃ kv', v = .agg (msgA (againS m id g now) kv') ∧ StrsAt w' kv' m.keys)
theorem Right_some (m : MsgS) (kv : Value) (w : World) (hk : StrsAt w kv m.keys) (hs : ∀ s ∈ m.keys, s.size ≤ maxLen) (hl : m.keys.length ≤ 1000000) (hz : m.body.size ≤ 140737488355328) :
    Calls Try.prog 41 #[.agg (msgA m kv)] w fun e w' => e = .returned (.bool (decide (RightP m))) ∧ Calm w w' := by
  by_cases h3 : m.kind = 1 ∨ m.kind = 2 ∨ m.kind = 3
  · rw [decide_eq_decide.2 (RightP.of3 h3)]
    exact Right3_any m kv w hk hs h3
  · exact Right_other m kv w hk hl hz (by omega)
set_option maxRecDepth 100000 in
set_option maxHeartbeats 8000000 in
theorem Again_other (m : MsgS) (kv : Value) (id : Int) (g : ByteArray) (now : Int) (w : World) (hk : StrsAt w kv m.keys) (hs : ∀ s ∈ m.keys, s.size ≤ maxLen) (hl : m.keys.length ≤ 1000000) (hz : m.body.size ≤ 140737488355328) (h3 : ¬ (m.kind = 1 ∨ m.kind = 3)) :
    Calls Try.prog 17 #[.agg (msgA m kv), .int .i64 id, .string g, .int .i64 now] w (AllDone m id g now w) := by
  have hright := box (fun W (hW : Calm w W) => Right_some m kv W (hk.calm hW) hs hl hz)
  clear hk hs hl hz
  obtain ⟨kd, q, du, rt, rf, bn, tp, tg, bd, ks⟩ := m
  simp only at h3
  obtain ⟨W1, hW1⟩ : ∃ W1, (w.alloc (.cells (msgA ⟨kd, q, du, rt, rf, bn, tp, tg, bd, ks⟩ kv) 33)).alloc (.cells zeroA 33) = W1 := ⟨_, rfl⟩
  have Hn := box (show W1.heap[w.heap.size]? = some (.cells (msgA ⟨kd, q, du, rt, rf, bn, tp, tg, bd, ks⟩ kv) 33 (0, 0)) by rw [← hW1]; exact heap_old _ _ (heap_new w _))
  have Hz := box (show W1.heap[w.heap.size + 1]? = some (.cells zeroA 33 (0, 0)) by rw [← hW1]; have := heap_new (w.alloc (.cells (msgA ⟨kd, q, du, rt, rf, bn, tp, tg, bd, ks⟩ kv) 33)) (.cells zeroA 33); rwa [World.size_alloc] at this)
  have Ha := box (show Calm w W1 by rw [← hW1]; exact ((Calm.refl w).alloc _).alloc _)
  go_enter Try.func17, Try.ntmps17
  go_wp2_with fail
  clear hW1
  refine (Group_any g W1).mono ?_
  rintro e w2 ⟨rfl, hc2⟩
  have J2 := box (heap_calm hc2 Hn.out)
  have Z2 := box (heap_calm hc2 Hz.out)
  have C2 := box (Ha.out.trans hc2)
  clear hc2
  cases hg : groupB g
  · have z0 := cell_of Z2.out 0
    have z1 := cell_of Z2.out 1
    have z2 := cell_of Z2.out 2
    have z3 := cell_of Z2.out 3
    have z4 := cell_of Z2.out 4
    have z5 := cell_of Z2.out 5
    have z6 := cell_of Z2.out 6
    have z7 := cell_of Z2.out 7
    have z8 := cell_of Z2.out 8
    have z9 := cell_of Z2.out 9
    have f0 := free_of Z2.out 0
    have f1 := free_of Z2.out 1
    have f2 := free_of Z2.out 2
    have f3 := free_of Z2.out 3
    have f4 := free_of Z2.out 4
    have f5 := free_of Z2.out 5
    have f6 := free_of Z2.out 6
    have f7 := free_of Z2.out 7
    have f8 := free_of Z2.out 8
    have f9 := free_of Z2.out 9
    have hlz := heap_lt Z2.out
    have Hfin := box (put_msg Z2.out rfl (.int .i64 0) (.int .i64 0) (.int .i64 0) (.int .i64 0) (.int .i64 0) (.int .i64 0) (.string ⟨#[]⟩) (.string ⟨#[]⟩) (.string ⟨#[]⟩) (.slice none 0 0))
    have Hcal := box (calm_put_msg C2.out (b := w.heap.size + 1) (by omega) (.int .i64 0) (.int .i64 0) (.int .i64 0) (.int .i64 0) (.int .i64 0) (.int .i64 0) (.string ⟨#[]⟩) (.string ⟨#[]⟩) (.string ⟨#[]⟩) (.slice none 0 0))
    go_wp2_with fail
    (try simp only [Exit.inBlock, Exit.then])
    refine bodyPost_ret (ret_msg rfl _ _ (w.heap.size + 1) _ rfl Hfin.out rfl) rfl ?_
    exact ⟨_, 11, rfl, Hcal.out, fun _ => ⟨by rw [hg]; rfl, rfl⟩, fun h => absurd h.2.2.1 h3⟩
  · have c0 := cell_of J2.out 0
    have c1 := cell_of J2.out 1
    have c2 := cell_of J2.out 2
    have c3 := cell_of J2.out 3
    have c4 := cell_of J2.out 4
    have c5 := cell_of J2.out 5
    have c6 := cell_of J2.out 6
    have c7 := cell_of J2.out 7
    have c8 := cell_of J2.out 8
    have c9 := cell_of J2.out 9
    have hlt := heap_lt J2.out
    go_wp2_with fail
    refine (hright.out _ C2.out).mono ?_
    obtain ⟨b, hb⟩ : ∃ b, decide (RightP ⟨kd, q, du, rt, rf, bn, tp, tg, bd, ks⟩) = b := ⟨_, rfl⟩
    rw [hb]
    rintro e w3 ⟨rfl, hc3⟩
    have J3 := box (heap_calm hc3 J2.out)
    have Z3 := box (heap_calm hc3 Z2.out)
    have C3 := box (C2.out.trans hc3)
    clear hc3 hlt c0 c1 c2 c3 c4 c5 c6 c7 c8 c9 hb
    have k0 := cell_of J3.out 0
    have hlt := heap_lt J3.out
    have e1 : (kd == 1) = false := beq_eq_false_iff_ne.2 (by omega)
    have e3 : (kd == 3) = false := beq_eq_false_iff_ne.2 (by omega)
    have f1 : (kd != 1) = true := by rw [bne, e1]; rfl
    have f3 : (kd != 3) = true := by rw [bne, e3]; rfl
    cases b
    · have z0 := cell_of Z3.out 0
      have z1 := cell_of Z3.out 1
      have z2 := cell_of Z3.out 2
      have z3 := cell_of Z3.out 3
      have z4 := cell_of Z3.out 4
      have z5 := cell_of Z3.out 5
      have z6 := cell_of Z3.out 6
      have z7 := cell_of Z3.out 7
      have z8 := cell_of Z3.out 8
      have z9 := cell_of Z3.out 9
      have f0 := free_of Z3.out 0
      have f1 := free_of Z3.out 1
      have f2 := free_of Z3.out 2
      have f3 := free_of Z3.out 3
      have f4 := free_of Z3.out 4
      have f5 := free_of Z3.out 5
      have f6 := free_of Z3.out 6
      have f7 := free_of Z3.out 7
      have f8 := free_of Z3.out 8
      have f9 := free_of Z3.out 9
      have hlz := heap_lt Z3.out
      have Hfin := box (put_msg Z3.out rfl (.int .i64 0) (.int .i64 0) (.int .i64 0) (.int .i64 0) (.int .i64 0) (.int .i64 0) (.string ⟨#[]⟩) (.string ⟨#[]⟩) (.string ⟨#[]⟩) (.slice none 0 0))
      have Hcal := box (calm_put_msg C3.out (b := w.heap.size + 1) (by omega) (.int .i64 0) (.int .i64 0) (.int .i64 0) (.int .i64 0) (.int .i64 0) (.int .i64 0) (.string ⟨#[]⟩) (.string ⟨#[]⟩) (.string ⟨#[]⟩) (.slice none 0 0))
      go_wp2_with fail
      (try simp only [Exit.inBlock, Exit.then])
      refine bodyPost_ret (ret_msg rfl _ _ (w.heap.size + 1) _ rfl Hfin.out rfl) rfl ?_
      exact ⟨_, 1, rfl, Hcal.out, fun _ => ⟨by rw [hg]; rfl, rfl⟩, fun h => absurd h.2.2.1 h3⟩
    · have z0 := cell_of Z3.out 0
      have z1 := cell_of Z3.out 1
      have z2 := cell_of Z3.out 2
      have z3 := cell_of Z3.out 3
      have z4 := cell_of Z3.out 4
      have z5 := cell_of Z3.out 5
      have z6 := cell_of Z3.out 6
      have z7 := cell_of Z3.out 7
      have z8 := cell_of Z3.out 8
      have z9 := cell_of Z3.out 9
      have f0 := free_of Z3.out 0
      have f1 := free_of Z3.out 1
      have f2 := free_of Z3.out 2
      have f3 := free_of Z3.out 3
      have f4 := free_of Z3.out 4
      have f5 := free_of Z3.out 5
      have f6 := free_of Z3.out 6
      have f7 := free_of Z3.out 7
      have f8 := free_of Z3.out 8
      have f9 := free_of Z3.out 9
      have hlz := heap_lt Z3.out
      have Hfin := box (put_msg Z3.out rfl (.int .i64 0) (.int .i64 0) (.int .i64 0) (.int .i64 0) (.int .i64 0) (.int .i64 0) (.string ⟨#[]⟩) (.string ⟨#[]⟩) (.string ⟨#[]⟩) (.slice none 0 0))
      have Hcal := box (calm_put_msg C3.out (b := w.heap.size + 1) (by omega) (.int .i64 0) (.int .i64 0) (.int .i64 0) (.int .i64 0) (.int .i64 0) (.int .i64 0) (.string ⟨#[]⟩) (.string ⟨#[]⟩) (.string ⟨#[]⟩) (.slice none 0 0))
      go_wp2_with fail
      (try simp only [Exit.inBlock, Exit.then])
      refine bodyPost_ret (ret_msg rfl _ _ (w.heap.size + 1) _ rfl Hfin.out rfl) rfl ?_
      exact ⟨_, 1, rfl, Hcal.out, fun _ => ⟨by rw [hg]; rfl, rfl⟩, fun h => absurd h.2.2.1 h3⟩
theorem Again_all (m : MsgS) (kv : Value) (id : Int) (g : ByteArray) (now : Int) (w : World) (hk : StrsAt w kv m.keys) (hs : ∀ s ∈ m.keys, s.size ≤ maxLen) (hl : m.keys.length ≤ 1000000) (hz : m.body.size ≤ 140737488355328) (hid : -9223372036854775808 ≤ id ∧ id ≤ 9223372036854775807) :
    Calls Try.prog 17 #[.agg (msgA m kv), .int .i64 id, .string g, .int .i64 now] w (AllDone m id g now w) := by
  by_cases h3 : m.kind = 1 ∨ m.kind = 3
  · refine (Again_any m kv id g now w hk hs hl h3 hid).mono ?_
    rintro e w' ⟨v, c, rfl, hc, h1, h2⟩
    have hiff : AgainP m id g now ↔ AgainOk m id g now := by
      unfold AgainP AgainOk
      rw [RightP.of3 (by omega)]
      exact ⟨fun ⟨a, b, _, d⟩ => ⟨a, b, d⟩, fun ⟨a, b, d⟩ => ⟨a, b, h3, d⟩⟩
    exact ⟨v, c, rfl, hc, fun h => h1 (fun h' => h (hiff.2 h')), fun h => by obtain ⟨a, kv', b, c', _⟩ := h2 (hiff.1 h); exact ⟨a, kv', b, c'⟩⟩
  · exact Again_other m kv id g now w hk hs hl hz h3
end Go.Proofs.Ytofffmnkoelifaa.rc
