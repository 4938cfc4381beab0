/- TagOrder: the order of tags doesn't change what is wanted; a filter of more tags wants no less. No condition. -/
import Derived.Test.YtofffmnkoelifaaDoorRows
import Derived.WalkKit
import Derived.ProofKit
import Derived.OpenShut
import Derived.Handy
import Derived.Deep.LoopGhost
import Derived.Lib.Hide
import Derived.Lib.Strings
import Derived.SizedLaws
import Derived.Deep.Slices
import Derived.Shelf.SlIter.Nil
import Derived.Ground.GgzProg
import Derived.Shelf.SortM.Plain
import Derived.Shelf.SortM.SortNone
import Derived.Ground.SlgmProg
import Derived.Test.YtofffmnkoelifaaDoorProg
import Derived.Shelf.Strings.Builder1
import Derived.Shelf.Strings.Builder2
import Derived.Shelf.Strings.OnBuilder
import Derived.Shelf.Small.Bits
import Derived.Shelf.Strings.BuilderF
import Derived.Shelf.Strings.BuilderK
import Derived.Shelf.Utf8.RuneCount
import Derived.Shelf.Strings.Builder2Cap
import Derived.Shelf.Strconv.Itoa0
import Derived.Shelf.Strings.Search1
import Derived.Shelf.Strings.Search2
import Derived.Shelf.Strings.Search3
import Derived.Shelf.Strings.Count
import Derived.Shelf.LaysM
import Derived.Shelf.Strings.Shaped
import Derived.Shelf.Sort.Plain
import Derived.Shelf.GgClosure.StringsIndexFunc
import Derived.Ground.GgwProg
import Derived.Shelf.GgClosure.StringsIndexFuncTop
import Derived.Shelf.GgClosure.StringsRunes
import Derived.Shelf.Strings.Split
import Derived.Shelf.Strings.SplitShaped
import Derived.Shelf.Unicode.Decode
import Derived.Shelf.Strings.RuneCount
import Derived.Shelf.Strings.Explode
import Derived.Shelf.Unicode.DecodeSlow
import Derived.Shelf.Unicode.DecodeAny
import Derived.Shelf.Strings.BuilderCap
import Derived.Ground.Names2Prog
import Derived.Shelf.Slices.Clone
import Derived.Shelf.Slices.CompactS
import Derived.Shelf.Slices.Cells
import Derived.Shelf.Slices.In.SortNone
import Derived.Ground.SlgnProg
import Derived.Shelf.SlicesE.Compact
import Derived.Shelf.SlicesE.Clone
import Derived.Ground.SlgfProg
import Derived.Shelf.SlicesE.IndexFunc
import Derived.RangeFuncBox
import Derived.RangeFuncLeaves
import Derived.Shelf.Abstract
import Derived.OwnWalkIn
import Derived.TacticsInMore
import Derived.LoopNIn
import Derived.LoopIn
import Derived.Maps.AppendAt
import Derived.Lib.SlicesCompact
import Derived.Deep.QuietTactic
import Derived.BigQuiet
import Derived.Laws.ResultCell
import Derived.Laws.Rows
import Derived.Lib.SplitLaws
import Derived.Lib.Join
import Derived.Lib.IndexMore
import Derived.Laws.AppendOwn
import Derived.Deep.Upon
import Derived.Deep.RegionHeld3
import Derived.Test.YtofffmnkoelifaaDoorTie
import Derived.Test.YtofffmnkoelifaaDoorCards
import Derived.LaidMore
import Derived.Lay
import Derived.SevenTiedAt
import Derived.HandedShaped
import Derived.Stop.Joined
import Derived.Shelf.Vars
import Derived.Lib.AppendZeros
import Derived.Test.YtofffmnkoelifaaDoorPk11
namespace Go.Proofs.YtofffmnkoelifaaDoor.torder
open Go.ChangeShapes Go.WideShapes Go.ChangeAt Go.RowKit Go.Shelf
open Go.Proofs.YtofffmnkoelifaaDoor.nm Go.Proofs.YtofffmnkoelifaaDoor.vs Go.Proofs.YtofffmnkoelifaaDoor.rc Go.Proofs.YtofffmnkoelifaaDoor.tg

theorem new_rev (l : List ByteArray) : newC l.reverse = newC l := by
  have h1 : l.reverse.all plainB = l.all plainB := List.all_reverse
  have h2 : unlikeB l.reverse = unlikeB l := by
    unfold unlikeB
    rw [List.map_reverse]
    refine decide_eq_decide.2 ?_
    unfold List.Nodup
    rw [List.pairwise_reverse]
    exact ⟨fun h => h.imp (fun hh => Ne.symm hh), fun h => h.imp (fun hh => Ne.symm hh)⟩
  unfold newC
  rw [h1, h2, List.length_reverse]
theorem wants_rev (l : List ByteArray) (s : ByteArray) : wantsB l.reverse s = wantsB l s := by
  unfold wantsB
  rw [List.any_reverse, List.isEmpty_reverse]
theorem quick_rev (l : List ByteArray) (n : Int) : quickB l.reverse n = quickB l n := by
  unfold quickB
  rw [List.any_reverse, List.isEmpty_reverse]
theorem wants_more (l : List ByteArray) (x s : ByteArray) (h : l ≠ []) (hw : wantsB l s = true) : wantsB (l ++ [x]) s = true := by
  unfold wantsB at hw ⊢
  rw [List.isEmpty_eq_false_iff.2 h, Bool.false_or] at hw
  rw [List.any_append, hw]
  simp
/-- The last so many, the last one first. -/
theorem rev_step (l : List ByteArray) (k : Nat) (hk : k < l.length) : (l.reverse).take (k + 1) = l.reverse.take k ++ [l[l.length - 1 - k]'(by omega)] := by
  rw [List.take_succ_eq_append_getElem (by rw [List.length_reverse]; exact hk), List.getElem_reverse]
theorem empty_own (w : World) : (w.alloc (.cells #[] 9)).ownsRow w.heap.size 9 1 (.slice (some ⟨w.heap.size, 0, none⟩) 0 0) ([] : List ByteArray).length (([] : List ByteArray).map Value.string) :=
  ⟨rfl, .inr ⟨w.heap.size, 0, #[], rfl, Nat.le_refl _, heap_new w _, Nat.le_refl _, Nat.zero_le _, rfl, rfl⟩⟩
set_option maxRecDepth 100000 in
set_option maxHeartbeats 16000000 in
theorem walk (W : World) (hsh : W.ShapedOpen Tryd.prog) (v : Value) (l : List ByteArray) (hv : StrsAt W v l) (hz : ∀ s ∈ l, s.size ≤ reachBytes) (hn : l.length ≤ maxLen) (more : ByteArray) (hm0 : more.size ≤ maxLen) (asked : ByteArray) (ha0 : asked.size ≤ maxLen) :
    Calls Tryd.prog 3 #[v, .string more, .string asked] W fun e W' => e = .returned (.bool true) ∧ Calm W W' := by
  obtain ⟨m, hm⟩ := max_len hsh
  have haw := box (awake_any m W hm)
  obtain ⟨a, cap, rfl, hcells⟩ := hv.uni
  have HV := box hv
  have H := box hcells
  have Hz := box hz
  unfold maxLen at hn hm0 ha0
  clear hsh hm hv hcells hz
  go_enter Tryd.func3, Tryd.ntmps3
  go_wp2_with fail
  refine haw.out.mono ?_
  rintro e w1 ⟨rfl, hc⟩
  have C1 := box hc
  clear hc haw
  by_cases h20 : 20 < l.length
  · go_wp2_with fail
    go_ret
    exact ⟨rfl, C1.out⟩
  by_cases hm100 : 100 < more.size
  · go_wp2_with fail
    go_ret
    exact ⟨rfl, C1.out⟩
  by_cases ha100 : 100 < asked.size
  · go_wp2_with fail
    go_ret
    exact ⟨rfl, C1.out⟩
  go_wp2_with fail
  go_loopw [7, 32] (fun b i wr => ∃ k : Nat, k ≤ l.length ∧ i = .int .i64 k ∧ wr.ownsRow W.heap.size 9 1 b (l.reverse.take k).length ((l.reverse.take k).map Value.string) ∧ Calm W wr ∧ ∀ j (hj : j < k) (hj' : j < l.length), l[j].size ≤ 100) (fun _ i _ => l.length - (intOf i).toNat)
  case atStart => exact ⟨0, Nat.zero_le _, rfl, ⟨rfl, .inl ⟨rfl, rfl⟩⟩, C1.out, fun j hj => absurd hj (Nat.not_lt_zero _)⟩
  case round =>
    obtain ⟨k, hk, rfl, hrow, hcal, hall⟩ := hrel
    have HR := box hrow
    have HC := box hcal
    have HA := box hall
    clear hrow hcal hall
    by_cases hlt : k < l.length
    · obtain ⟨b1, off, rfl, hb, hc0⟩ := H.out k hlt
      obtain ⟨b2, off2, he2, _, hc1⟩ := H.out (l.length - 1 - k) (by omega)
      cases he2
      have d0 := (HC.out.cell (p := ⟨b1, off + k, none⟩) hb).trans hc0
      have d1 := (HC.out.cell (p := ⟨b1, off + (l.length - 1 - k), none⟩) hb).trans hc1
      have hbl := Nat.lt_of_lt_of_le hb HC.out.size
      rw [List.getD_eq_getElem?_getD, List.getElem?_eq_getElem hlt] at d0
      rw [List.getD_eq_getElem?_getD, List.getElem?_eq_getElem (by omega)] at d1
      simp only [Option.getD_some] at d0 d1
      have hstep := box (rev_step l k hlt)
      have hw1 : IntKind.i64.wrap ((l.length : Int) - 1) = (l.length : Int) - 1 := IntWalk.i64_in _ (by omega)
      have hw2 : IntKind.i64.wrap ((l.length : Int) - 1 - k) = ((l.length - 1 - k : Nat) : Int) := by rw [IntWalk.i64_in _ (by omega)]; omega
      have hw3 : ((l.length : Int) - 1 - k) = ((l.length - 1 - k : Nat) : Int) := by omega
      have hsz := Hz.out _ (List.getElem_mem hlt)
      have hnext := box (show l[k].size ≤ 100 → ∀ j (hj : j < k + 1) (hj' : j < l.length), l[j].size ≤ 100 from fun h j hj hj' => by
        by_cases e : j = k
        · subst e; exact h
        · exact HA.out j (by omega) hj')
      obtain ⟨x, hx⟩ : ∃ x, l[k] = x := ⟨_, rfl⟩
      obtain ⟨y, hy⟩ : ∃ x, l[l.length - 1 - k]'(by omega) = x := ⟨_, rfl⟩
      rw [hx] at d0 hsz hnext
      rw [hy] at d1 hstep
      have hil : l.length - 1 - k < l.length := by omega
      unfold reachBytes at hsz
      clear hx hy hc0 hc1
      by_cases h100 : 100 < x.size
      · go_wp2_with fail
        go_ret
        exact ⟨rfl, HC.out⟩
      · obtain ⟨ba, bc, hbv, _⟩ := row_cap HR.out
        have hlk : (l.reverse.take k).length = k := by rw [List.length_take, List.length_reverse]; omega
        rw [hlk] at hbv
        subst hbv
        clear hlk
        obtain ⟨v2, w2, happ, hrow2, hk2⟩ := append_strs (wr.alloc (.cells #[.string y] 9)) W.heap.size (.slice ba k bc) (.slice (some ⟨wr.heap.size, 0, none⟩) 1 1) (l.reverse.take k) [y] (HR.out.alloc _) (by have := HC.out.size; rw [World.size_alloc]; omega) (StrsAt.one (cell_of (heap_new wr _) 0)) (by rw [List.length_take, List.length_reverse]; simp; omega) 22
        have Happ := box happ
        have Hrow := box (show w2.ownsRow W.heap.size 9 1 v2 (l.reverse.take (k + 1)).length ((l.reverse.take (k + 1)).map Value.string) from by rw [hstep.out]; exact hrow2)
        have C2 := box (show Calm W w2 from Below.trans (HC.out.trans ((Calm.refl wr).alloc (.cells #[.string y] 9))) (hk2.below (B := W.heap.size) (by have := HC.out.size; rw [World.size_alloc]; omega) (fun b h => h)))
        have Hnx := box (hnext.out (by omega))
        clear happ hrow2 hk2 hstep hnext
        go_wp2_with (first | (at_builtin; refine Lib.wpList_append_run _ rfl _ _ _ _ rfl _ _ rfl rfl _ _ Happ.out ?_) | fail)
        go_roundw
        case rel => exact ⟨k + 1, by omega, by go_num, Hrow.out, C2.out, Hnx.out⟩
        case measure => simp [intOf]; omega
    · obtain rfl : k = l.length := by omega
      have hfull : l.reverse.take l.length = l.reverse := by rw [← List.length_reverse, List.take_length]
      rw [hfull] at HR
      obtain ⟨ba, bc, hbv, _⟩ := row_cap HR.out
      rw [List.length_reverse] at hbv
      subst hbv
      have hlz : ∀ s ∈ l, s.size ≤ maxLen := fun s hs => by
        obtain ⟨j, hj, rfl⟩ := List.mem_iff_getElem.1 hs
        have := HA.out j hj hj
        unfold maxLen
        omega
      have Hlz := box hlz
      have SB := box (strs_own HR.out)
      have hnew := box (New_any (.slice a l.length cap) l wr (HV.out.calm HC.out) (by omega))
      have hnew2 := box (fun (w : World) (hc : Calm wr w) => New_any (.slice ba l.length bc) l.reverse w (SB.out.calm hc) (by rw [List.length_reverse]; omega))
      clear HR hfull HA hlz
      go_wp2_with fail
      refine hnew.out.mono ?_
      rintro e w2 ⟨f, rfl, hc, hf, _⟩
      have C2 := box (HC.out.trans hc)
      have Cr := box hc
      have Ff := box hf
      clear hc hf
      go_wp2_with fail
      refine (hnew2.out _ Cr.out).mono ?_
      rintro e w3 ⟨g, rfl, hc, hg, _⟩
      rw [new_rev] at hg ⊢
      have C3 := box (C2.out.trans hc)
      have Fg := box hg
      have Ff3 := box (fun h => (Ff.out h).calm hc)
      clear hc hg Ff hnew hnew2
      by_cases hz0 : newC l = 0
      · have F := box (Ff3.out hz0)
        have G := box (Fg.out hz0)
        rw [hz0]
        have hwf := box (fun (w : World) (hc : Calm w3 w) => Wants_any f l asked w (F.out.calm hc) (by omega))
        have hwg := box (fun (w : World) (hc : Calm w3 w) => Wants_any g l.reverse asked w (G.out.calm hc) (by rw [List.length_reverse]; omega))
        have hqf := box (fun (w : World) (hc : Calm w3 w) => Quick_any f l 7 w (F.out.calm hc) (by omega) Hlz.out)
        have hqg := box (fun (w : World) (hc : Calm w3 w) => Quick_any g l.reverse 7 w (G.out.calm hc) (by rw [List.length_reverse]; omega) (fun s hs => Hlz.out s (List.mem_reverse.1 hs)))
        simp only [wants_rev] at hwg
        simp only [quick_rev] at hqg
        have hmore := box (fun h => wants_more l more asked h)
        obtain ⟨wb, hwb⟩ : ∃ b, wantsB l asked = b := ⟨_, rfl⟩
        obtain ⟨qb, hqb⟩ : ∃ b, quickB l 7 = b := ⟨_, rfl⟩
        simp only [hwb] at hwf hwg hmore
        simp only [hqb] at hqf hqg
        clear hwb hqb Ff3 Fg hz0 SB
        go_wp2_with fail
        refine (hwf.out _ (Calm.refl _)).mono ?_
        rintro e w4 ⟨rfl, hc4⟩
        have D4 := box hc4
        clear hc4
        go_wp2_with fail
        refine (hwg.out _ D4.out).mono ?_
        rintro e w5 ⟨rfl, hc5⟩
        have D5 := box (D4.out.trans hc5)
        clear hc5
        go_wp2_with fail
        refine (hqf.out _ D5.out).mono ?_
        rintro e w6 ⟨rfl, hc6⟩
        have D6 := box (D5.out.trans hc6)
        clear hc6
        go_wp2_with fail
        refine (hqg.out _ D6.out).mono ?_
        rintro e w7 ⟨rfl, hc7⟩
        have D7 := box (D6.out.trans hc7)
        have C7 := box (C3.out.trans D7.out)
        clear hc7
        have hA := empty_own w7
        obtain ⟨w8, hw8⟩ : ∃ X, w7.alloc (.cells #[] 9) = X := ⟨_, rfl⟩
        rw [hw8] at hA
        have hk8 : Calm w7 w8 := by rw [← hw8]; exact (Calm.refl _).alloc _
        obtain ⟨v9, w9, happ9, hrow9, hk9⟩ := append_strs w8 w7.heap.size (.slice (some ⟨w7.heap.size, 0, none⟩) 0 0) (.slice a l.length cap) [] l hA hk8.size ((HV.out.calm C7.out).calm hk8) (by simp; omega) 22
        rw [List.nil_append] at hrow9
        obtain ⟨xa, xc, hv9, _⟩ := row_cap hrow9
        subst hv9
        have K9 := box (show Calm w7 w9 from Below.trans hk8 (hk9.below (B := w7.heap.size) hk8.size (fun b h => h)))
        obtain ⟨w10, hw10⟩ : ∃ X, w9.alloc (.cells #[.string more] 9) = X := ⟨_, rfl⟩
        have hk10 : Calm w9 w10 := by rw [← hw10]; exact (Calm.refl _).alloc _
        obtain ⟨v11, w11, happ11, hrow11, hk11⟩ := append_strs w10 w7.heap.size (.slice xa l.length xc) (.slice (some ⟨w9.heap.size, 0, none⟩) 1 1) l [more] (by rw [← hw10]; exact hrow9.alloc _) (Nat.le_trans K9.out.size hk10.size) (by rw [← hw10]; exact StrsAt.one (cell_of (heap_new w9 _) 0)) (by simp; omega) 22
        obtain ⟨ya, yc, hv11, _⟩ := row_cap hrow11
        rw [List.length_append, List.length_singleton] at hv11
        subst hv11
        have K11 := box (show Calm w7 w11 from Below.trans (K9.out.trans hk10) (hk11.below (B := w7.heap.size) (Nat.le_trans K9.out.size hk10.size) (fun b h => h)))
        have Happ9 := box happ9
        have Happ11 := box happ11
        have hnew := box (New_any (.slice ya (l.length + 1) yc) (l ++ [more]) w11 (strs_own hrow11) (by simp; omega))
        have C11 := box (C7.out.trans K11.out)
        have D11 := box (D7.out.trans K11.out)
        clear hA hk8 happ9 hrow9 hk9 hk10 happ11 hrow11 hk11 hwg hqf hqg G K9 K11 HV H Hz Hlz D4 D5 D6
        have hwn : (wb != wb) = false := by cases wb <;> rfl
        have hqn : (qb != qb) = false := by cases qb <;> rfl
        go_wp2_with (first | (at_builtin; refine Lib.wpList_append_run _ rfl _ _ _ _ rfl _ _ rfl rfl _ _ Happ9.out ?_) | (at_builtin; refine Lib.wpList_append_run _ rfl _ _ _ _ rfl _ _ rfl rfl _ _ Happ11.out ?_) | fail)
        refine hnew.out.mono ?_
        rintro e w12 ⟨x, rfl, hc, hx, _⟩
        have C12 := box (C11.out.trans hc)
        have D12 := box (D11.out.trans hc)
        have Fx := box hx
        clear hc hx hnew Happ9 Happ11 hw8 hw10 C11 D11 C7 D7
        by_cases hz2 : newC (l ++ [more]) = 0
        · have X := box (Fx.out hz2)
          rw [hz2]
          by_cases hl0 : l = []
          · have hlz : l.length = 0 := by rw [hl0]; rfl
            have hlb : (((l.length : Nat) : Int) == 0) = true := by rw [hlz]; rfl
            clear hl0
            go_wp2_with fail
            go_ret
            exact ⟨rfl, C12.out⟩
          · have hln : ¬ l.length = 0 := fun e => hl0 (List.eq_nil_of_length_eq_zero e)
            have hlb : (((l.length : Nat) : Int) == 0) = false := beq_eq_false_iff_ne.2 (by omega)
            have hwx := box (fun (w : World) (hc : Calm w12 w) => Wants_any x (l ++ [more]) asked w (X.out.calm hc) (by simp; omega))
            cases wb
            · go_wp2_with fail
              refine (hwf.out _ D12.out).mono ?_
              rintro e w13 ⟨rfl, hc⟩
              have C13 := box (C12.out.trans hc)
              clear hc
              go_wp2_with fail
              go_ret
              exact ⟨rfl, C13.out⟩
            · have hwm := hmore.out hl0 rfl
              simp only [hwm] at hwx
              go_wp2_with fail
              refine (hwf.out _ D12.out).mono ?_
              rintro e w13 ⟨rfl, hc⟩
              have C13 := box (C12.out.trans hc)
              have hw13 := box (hwx.out _ hc)
              clear hc
              go_wp2_with fail
              refine hw13.out.mono ?_
              rintro e w14 ⟨rfl, hc⟩
              have C14 := box (C13.out.trans hc)
              clear hc
              go_wp2_with fail
              go_ret
              exact ⟨rfl, C14.out⟩
        · have hzb : (newC (l ++ [more]) == 0) = false := beq_eq_false_iff_ne.2 hz2
          have hzb2 : (newC (l ++ [more]) != 0) = true := bne_iff_ne.2 hz2
          obtain ⟨c, hc⟩ : ∃ c, newC (l ++ [more]) = c := ⟨_, rfl⟩
          rw [hc] at hzb hzb2 ⊢
          clear hz2 hc Fx
          go_wp2_with fail
          go_ret
          exact ⟨rfl, C12.out⟩
      · have hzb : (newC l == 0) = false := beq_eq_false_iff_ne.2 hz0
        have hzb2 : (newC l != 0) = true := bne_iff_ne.2 hz0
        obtain ⟨c, hc⟩ : ∃ c, newC l = c := ⟨_, rfl⟩
        rw [hc] at hzb hzb2 ⊢
        clear hz0 hc Ff3 Fg
        go_wp2_with fail
        go_ret
        exact ⟨rfl, C3.out⟩

abbrev LAIDS : List (String × DataW Unit) := [("unicode/utf8.acceptRanges", Rows.laid_unicode_utf8_acceptRanges), ("unicode/utf8.first", Rows.laid_unicode_utf8_first)]
theorem own : ownKnob Tryd.prog.godebug = none := by kernel_rfl
theorem laidOut : laidOutB Tryd.prog = true := by kernel_rfl
set_option maxRecDepth 100000 in
set_option linter.unusedVariables false in
theorem lifted (os : Os) (started : os.Started) (H : Type) (enc : TypeId × Value → H) :
    ReturnsInHanded {} Tryd.checked os 3 .any (fun w args => (Rows.tagOrderSpec.pre enc Tryd.prog Tryd.f3 Rows.tagOrderRow.domain false w args ∧ laidMetH Tryd.prog LAIDS w) ∧ sizedMet enc Tryd.prog Tryd.f3 (OpenSpec.ofChange Rows.tagOrderSpec) false w args) (Rows.tagOrderSpec.post enc Tryd.prog Tryd.f3 false true false false) := by
  refine handed_and_shaped (C := Tryd.checked) (X := fun w _ => laidMetH Tryd.prog LAIDS w) (fun _ _ _ hh h => h.of_heap hh) own started (by kernel_rfl) Tryd.func3
    (ChangeSpec.witness_shaped (enc := enc) (C := Tryd.checked) (os := os) (X := fun w _ => laidMetH Tryd.prog LAIDS w) false (World.laidAll Tryd.prog os LAIDS) #[.slice none 0 0, .string ⟨#[]⟩, .string ⟨#[]⟩] 8 (World.laidAll_os _ _ _)
      (World.shaped_of_ZipB (by kernel_rfl) (by kernel_rfl)) (by kernel_rfl) (by kernel_rfl) (by kernel_rfl)
      (by rw [MakeChecks.laidMetH_plain _ _ _ (by kernel_rfl)]; exact laidMet_laidAll _ (by kernel_rfl) (by kernel_rfl))) ?_
  intro W base args ds gs before hval0 hW hcnd hsz0 _ hshape _
  have hsz : (DataW.weightsEach Tryd.prog (Tryd.f3.params.toList ++ []) (ds ++ gs)).all (· ≤ reachBytes) = true := hsz0
  clear hsz0
  have hval : ∀ (j : Nat) t v, Tryd.f3.params[j]? = some t → args[j]? = some v → Value.okWide Tryd.prog W .any base t v := hval0
  have hW' := hW
  obtain ⟨p, q, hA0, hV, rfl, hfz, hnd⟩ := hW
  have hA : DataW.TrodAll enc Tryd.prog W 0 (fun _ => true) true Tryd.f3.params.toList args.toList ds p := hA0
  rw [Tryd.params3] at hA hval hsz
  obtain ⟨v0, vs0, d0, ds0, p0, q0, hargs, rfl, rfl, h0, r0'⟩ := trodAll_cons hA
  obtain ⟨v1, vs1, d1, ds1, p1, q1, rfl, rfl, rfl, h1, r1'⟩ := trodAll_cons r0'
  obtain ⟨v2, vs2, d2, ds2, p2, q2, rfl, rfl, rfl, h2, r2'⟩ := trodAll_cons r1'
  obtain ⟨rfl, rfl, rfl⟩ := trodAll_nil r2'
  obtain rfl : args = #[v0, v1, v2] := by cases args; simp_all
  obtain ⟨rfl, rfl⟩ := trodVars_none hV
  clear hA0 hval0
  have wt0 := fun n hn => (by simpa using List.all_eq_true.1 hsz n (DataW.weights_mem_each (j := 0) rfl rfl n hn) : n ≤ reachBytes)
  have wt1 := fun n hn => (by simpa using List.all_eq_true.1 hsz n (DataW.weights_mem_each (j := 1) rfl rfl n hn) : n ≤ reachBytes)
  have wt2 := fun n hn => (by simpa using List.all_eq_true.1 hsz n (DataW.weights_mem_each (j := 2) rfl rfl n hn) : n ≤ reachBytes)
  have hlt : ∀ x ∈ p0 ++ (p1 ++ (p2 ++ [])), x.block < W.heap.size := fun x hx => by have := hW'.lt x (by simpa using hx); simpa using this
  obtain ⟨l0, r0, z0, n0⟩ := strs_of_trod Tryd.underlying22 Tryd.underlying9 (by kernel_rfl) (hval 0 22 v0 rfl rfl) h0 wt0
  obtain ⟨s1, e1, _, _, z1⟩ := Go.ChangeMaps.open_string Tryd.underlying9 (hval 1 9 v1 rfl rfl) h1
  subst e1
  obtain ⟨s2, e2, _, _, z2⟩ := Go.ChangeMaps.open_string Tryd.underlying9 (hval 2 9 v2 rfl rfl) h2
  subst e2
  refine (walk W hshape v0 l0 r0 z0 n0 s1 z1 s2 z2).mono fun e W' ⟨he, hg⟩ => ?_
  subst he
  refine ⟨_, rfl, _, _, _, [] ++ [], p0 ++ (p1 ++ (p2 ++ [])), [], hW', ?_, ?_, ?_, hg.frame _, fun h => by cases h⟩
  · exact trodAll_mk1 (shut_bool Tryd.underlying4 true)
  · exact trodAll_cons_mk (Below.trod laidOut (by kernel_rfl) (of_decide_eq_true (by kernel_rfl)) h0 hg (fun x hx => hlt x (by simp [hx]))) (trodAll_cons_mk (Below.trod laidOut (by kernel_rfl) (of_decide_eq_true (by kernel_rfl)) h1 hg (fun x hx => hlt x (by simp [hx]))) (trodAll_cons_mk (Below.trod laidOut (by kernel_rfl) (of_decide_eq_true (by kernel_rfl)) h2 hg (fun x hx => hlt x (by simp [hx]))) (trodAll_mk0)))
  · exact rfl

theorem over : Rows.tagOrderRow.holds Tryd.pinned (OpenSpec.ofChange Rows.tagOrderSpec) :=
  OpenClaim.holds_of_wide 3 Tryd.f3 rfl rfl rfl rfl rfl rfl rfl ⟨rfl, rfl, rfl, rfl, rfl⟩ rfl rfl rfl rfl rfl (by kernel_rfl) Tryd.func3 (by kernel_rfl)
    (of_decide_eq_true (by kernel_rfl)) (by unfold Func.isWrapper; first | (rw [if_pos (by decide +kernel)]; kernel_rfl) | (rw [if_neg (by decide +kernel)]; exact ⟨rfl, rfl⟩))
    (fun os started H enc _ => lifted os started H enc)

theorem proved : Rows.TagOrderCardSaid :=
  Claim7.holds_tied_plain_at .later [] [.data, .pinned] true _ false over (fun _ h => by cases h) (by kernel_rfl) (fun _ h => by cases h) tagOrder_row_tie rfl ⟨rfl, rfl⟩ (by kernel_rfl) rfl
    (fun f fn hf hfn => by
      obtain rfl : f = 3 := Option.some.inj ((show Tryd.prog.funcNamed "reveille/reveillelaw09.TagOrder" = some 3 by kernel_rfl).symm.trans hf) |>.symm
      obtain rfl : fn = Tryd.f3 := (Option.some.inj (Tryd.func3.symm.trans hfn)).symm
      exact ⟨by kernel_rfl, fun j t ht => by
        rw [Tryd.params3] at ht
        have hm : t ∈ [22, 9, 9] := by simpa using Array.mem_of_getElem? ht
        have hall : ([22, 9, 9].all fun u => !Tryd.prog.wantsStandIn u) = true := by kernel_rfl
        exact (show Tryd.prog.wantsStandIn t = false by simpa using List.all_eq_true.1 hall t hm)⟩)
    (by kernel_rfl)
#print axioms proved
end Go.Proofs.YtofffmnkoelifaaDoor.torder
