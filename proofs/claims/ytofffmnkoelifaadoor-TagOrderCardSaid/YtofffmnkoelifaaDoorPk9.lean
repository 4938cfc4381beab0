/- Layer 9: filters of tags. -/
import Derived.Test.YtofffmnkoelifaaDoorRows
import Derived.WalkKit
import Derived.ProofKit
import Derived.OpenShut
import Derived.Handy
import Derived.Deep.LoopGhost
import Derived.Lib.Hide
import Derived.Lib.Strings
import Derived.SizedLaws
import Derived.Deep.Slices
import Derived.Shelf.SlIter.Nil
import Derived.Ground.GgzProg
import Derived.Shelf.SortM.Plain
import Derived.Shelf.SortM.SortNone
import Derived.Ground.SlgmProg
import Derived.Test.YtofffmnkoelifaaDoorProg
import Derived.Shelf.Strings.Builder1
import Derived.Shelf.Strings.Builder2
import Derived.Shelf.Strings.OnBuilder
import Derived.Shelf.Small.Bits
import Derived.Shelf.Strings.BuilderF
import Derived.Shelf.Strings.BuilderK
import Derived.Shelf.Utf8.RuneCount
import Derived.Shelf.Strings.Builder2Cap
import Derived.Shelf.Strconv.Itoa0
import Derived.Shelf.Strings.Search1
import Derived.Shelf.Strings.Search2
import Derived.Shelf.Strings.Search3
import Derived.Shelf.Strings.Count
import Derived.Shelf.LaysM
import Derived.Shelf.Strings.Shaped
import Derived.Shelf.Sort.Plain
import Derived.Shelf.GgClosure.StringsIndexFunc
import Derived.Ground.GgwProg
import Derived.Shelf.GgClosure.StringsIndexFuncTop
import Derived.Shelf.GgClosure.StringsRunes
import Derived.Shelf.Strings.Split
import Derived.Shelf.Strings.SplitShaped
import Derived.Shelf.Unicode.Decode
import Derived.Shelf.Strings.RuneCount
import Derived.Shelf.Strings.Explode
import Derived.Shelf.Unicode.DecodeSlow
import Derived.Shelf.Unicode.DecodeAny
import Derived.Shelf.Strings.BuilderCap
import Derived.Ground.Names2Prog
import Derived.Shelf.Slices.Clone
import Derived.Shelf.Slices.CompactS
import Derived.Shelf.Slices.Cells
import Derived.Shelf.Slices.In.SortNone
import Derived.Ground.SlgnProg
import Derived.Shelf.SlicesE.Compact
import Derived.Shelf.SlicesE.Clone
import Derived.Ground.SlgfProg
import Derived.Shelf.SlicesE.IndexFunc
import Derived.RangeFuncBox
import Derived.RangeFuncLeaves
import Derived.Shelf.Abstract
import Derived.OwnWalkIn
import Derived.TacticsInMore
import Derived.LoopNIn
import Derived.LoopIn
import Derived.Maps.AppendAt
import Derived.Lib.SlicesCompact
import Derived.Deep.QuietTactic
import Derived.BigQuiet
import Derived.Laws.ResultCell
import Derived.Laws.Rows
import Derived.Lib.SplitLaws
import Derived.Lib.Join
import Derived.Lib.IndexMore
import Derived.Test.YtofffmnkoelifaaDoorPk8
namespace Go.Proofs.YtofffmnkoelifaaDoor.tg
open Go.ChangeShapes Go.WideShapes Go.ChangeAt Go.RowKit Go.Shelf Go.Sort
open Go.Proofs.YtofffmnkoelifaaDoor.nm Go.Proofs.YtofffmnkoelifaaDoor.vs Go.Proofs.YtofffmnkoelifaaDoor.rc

/-! The plain half. -/
theorem splitK_cons (sep : List UInt8) (k : Nat) (s : List UInt8) : ∃ y r, Lib.splitK sep 0 k s = y :: r := by
  cases k with
  | zero => exact ⟨_, _, rfl⟩
  | succ k => unfold Lib.splitK; split <;> exact ⟨_, _, rfl⟩
/-- What was cut, joined, is what it was. -/
theorem join_split (sep : List UInt8) : ∀ (k : Nat) (s : List UInt8), Lib.join (Lib.splitK sep 0 k s) sep = s
  | 0, s => Lib.join_one s sep
  | k + 1, s => by
    unfold Lib.splitK
    by_cases h : (Lib.index s sep == -1) = true
    · rw [if_pos h]; exact Lib.join_one s sep
    · rw [if_neg h]
      rcases Lib.index_spec s sep with ⟨h1, _⟩ | ⟨i, h1, h2, h3, _⟩
      · rw [h1] at h; exact absurd rfl h
      · rw [h1, Int.toNat_natCast, Nat.add_zero]
        have hp : sep <+: s.drop i := by unfold Lib.occAt at h3; exact List.isPrefixOf_iff_prefix.1 h3
        obtain ⟨t, ht⟩ := hp
        have ht2 : s.drop (i + sep.length) = t := by rw [← List.drop_drop, ← ht, List.drop_left]
        have ih := join_split sep k (s.drop (i + sep.length))
        obtain ⟨y, r, hyr⟩ := splitK_cons sep k (s.drop (i + sep.length))
        rw [hyr] at ih ⊢
        rw [Lib.join_cons] at ih ⊢
        have : Lib.joinTail sep (y :: r) = sep ++ (y ++ Lib.joinTail sep r) := by unfold Lib.joinTail; simp
        rw [this, ih, ht2, ht, List.take_append_drop]
abbrev orC : ByteArray := ⟨#[32, 124, 124, 32]⟩
abbrev starC : ByteArray := ⟨#[42]⟩
/-- The error's number of tags. -/
def newC (l : List ByteArray) : Int := if l.all plainB = false then 11 else if unlikeB l = false then 10 else if 4 < l.length then 6 else 0
/-- A filter of these tags. -/
def FilAt (w : World) (f : Value) (T : List ByteArray) : Prop := ∃ q a c, f = .pointer (some ⟨q, 0, none⟩) ∧ w.heap[q]? = some (.cells #[.slice a T.length c] 42 (0, 0)) ∧ T.length ≤ c ∧ StrsAt w (.slice a T.length c) T
theorem FilAt.calm {w w' : World} {f : Value} {T : List ByteArray} (h : FilAt w f T) (hc : Calm w w') : FilAt w' f T := by
  obtain ⟨q, a, c, h1, h2, h4, h3⟩ := h
  exact ⟨q, a, c, h1, heap_calm hc h2, h4, h3.calm hc⟩
theorem row_cap {w : World} {base : Nat} {v : Value} {n : Nat} {xs : List Value} {e : TypeId} (h : w.ownsRow base e 1 v n xs) : ∃ a c, v = .slice a n c ∧ n ≤ c := by
  rcases h.2 with ⟨rfl, hn⟩ | ⟨g, cap, cur, rfl, hb, hg, hnc, _⟩
  · exact ⟨none, 0, by rw [hn], by omega⟩
  · exact ⟨_, cap, rfl, hnc⟩
theorem clone_cap (v : Value) (l : List ByteArray) (w : World) (h : StrsAt w v l) (hl : l.length ≤ 1000000) :
    Calls Tryd.prog 17 #[v] w fun e w' => ∃ a c, e = .returned (.slice a l.length c) ∧ l.length ≤ c ∧ StrsAt w' (.slice a l.length c) l ∧ Calm w w' := by
  have fin : ∀ (v' : Value) (w' : World), w'.ownsRow w.heap.size 9 1 v' l.length (l.map Value.string) → Calm w w' → ∃ a c, (Ending.returned v' = .returned (.slice a l.length c)) ∧ l.length ≤ c ∧ StrsAt w' (.slice a l.length c) l ∧ Calm w w' := fun v' w' hr hc => by
    obtain ⟨a, c, rfl, hle⟩ := row_cap hr
    exact ⟨a, c, rfl, hle, strs_own hr, hc⟩
  rcases h with ⟨rfl, a, cap, rfl⟩ | ⟨b, off, cap, rfl, hc⟩
  · cases a with
    | none =>
      refine (Tryd.slices_Clone_string_nil 0 cap w).mono fun e w' ⟨he, hw⟩ => ?_
      subst he
      exact fin _ _ ⟨rfl, .inl ⟨rfl, rfl⟩⟩ (by rw [hw]; exact Calm.refl _)
    | some a =>
      refine (Tryd.slices_Clone_string_zero a cap w).mono fun e w' ⟨v', he, hr, _, hb⟩ => ?_
      subst he
      exact fin _ _ hr hb
  · refine (Tryd.slices_Clone_string b off l.length cap l w (Nat.le_refl _) (by omega) (fun j hj => hc j hj)).mono fun e w' ⟨v', he, hr, _, hb⟩ => ?_
    subst he
    rw [List.take_length] at hr
    exact fin _ _ hr hb
def NewDone (l : List ByteArray) (w : World) (e : Ending) (w' : World) : Prop := ∃ f, e = .returned (.tuple #[f, .int .i64 (newC l)]) ∧ Calm w w' ∧ (newC l = 0 → FilAt w' f l) ∧ (newC l ≠ 0 → f = .pointer none)
set_option maxRecDepth 100000 in
set_option maxHeartbeats 4000000 in
theorem New_any (v : Value) (l : List ByteArray) (w : World) (h : StrsAt w v l) (hl : l.length ≤ 1000000) :
    Calls Tryd.prog 6 #[v] w (NewDone l w) := by
  have hall := box (AllPlain_any v l w h (by omega))
  have hcl := box (fun (W : World) (hW : Calm w W) => clone_cap v l W (h.calm hW) hl)
  obtain ⟨a, cap, rfl, ht⟩ := texts_of h
  have Ht := box ht
  clear h ht
  cases hp : l.all plainB
  · have e0 : newC l = 11 := by unfold newC; rw [if_pos hp]
    have E := box e0
    rw [hp] at hall
    clear e0 hp
    go_enter Tryd.func6, Tryd.ntmps6
    go_wp2_with fail
    refine hall.out.mono ?_
    rintro e w1 ⟨rfl, hc⟩
    have C := box hc
    clear hc
    go_wp2_with fail
    go_ret2
    exact ⟨_, by rw [E.out]; rfl, C.out, fun h => absurd (E.out.symm.trans h) (by decide), fun _ => rfl⟩
  · rw [hp] at hall
    have hun := compact_unlike l
    have hcl2 : (Lib.compact ((l.map (·.data.toList)).mergeSort leT)).length ≤ l.length := by
      refine Nat.le_trans (Lib.compact_length_le _) ?_
      rw [List.length_mergeSort, List.length_map]; exact Nat.le_refl _
    obtain ⟨m, hm⟩ : ∃ m, (Lib.compact ((l.map (·.data.toList)).mergeSort leT)).length = m := ⟨_, rfl⟩
    rw [hm] at hun hcl2
    have hn0 : newC l = if unlikeB l = false then 10 else if 4 < l.length then 6 else 0 := by unfold newC; rw [if_neg (by rw [hp]; simp)]
    have Hun := box hun
    clear hun
    have hs := box (fun (W1 : World) (hW : Calm w W1) => Sorted_any W1.heap.size w.heap.size _ l hl (W1.alloc (.cells #[.slice a l.length cap] 22)) (by simp) (by have := hW.size; simp; omega) (cell_of (heap_new W1 _) 0) (Texts.below (hW.trans ((Calm.refl W1).alloc _)) Ht.out))
    clear hp
    go_enter Tryd.func6, Tryd.ntmps6
    go_wp2_with fail
    refine hall.out.mono ?_
    rintro e w1 ⟨rfl, hc⟩
    have C1 := box hc
    clear hc
    go_wp2_with fail
    refine (Values_any a l.length cap w1).mono ?_
    rintro e w2 ⟨rfl, rfl⟩
    go_wp2_with fail
    refine (hs.out _ C1.out).mono ?_
    rintro e w2 ⟨v, rfl, hrow, hc2⟩
    have hC := C1.out.trans (((Calm.refl w1).alloc (.cells #[.slice a l.length cap] 22)).trans hc2)
    rcases hrow.2 with ⟨rfl, hz⟩ | ⟨gb, cap2, cur, rfl, hbase, hgb, r1, r2, r3, r4⟩
    · have hl0 : l = [] := List.eq_nil_of_length_eq_zero hz
      subst hl0
      have e2 : newC [] = 0 := by rfl
      have C3 := box hC
      have E := box e2
      clear hrow hC hc2 hn0 Hun e2
      go_wp2_with fail
      refine (Tryd.slices_Compact_string_empty none 0 w2).mono ?_
      rintro e w3 ⟨rfl, rfl⟩
      go_wp2_with fail
      refine (hcl.out _ C3.out).mono ?_
      rintro e w5 ⟨va, vcap, rfl, hle, hv, hc5⟩
      have Hv := box hv; have Hle := box hle
      have C5 := box (C3.out.trans hc5)
      have hb : ∀ (w : World), (Instr.build 42 #[(0, .slice va 0 vcap)]).run Tryd.prog w = .ok (.agg #[.slice va 0 vcap]) w := fun w => run_build w 42 _ _ (by rfl)
      clear hv hc5 hle
      go_wp2_with fail
      go_ret2
      have hn := heap_new w5 (.cells #[.slice va 0 vcap] 42)
      exact ⟨_, by rw [E.out]; rfl, C5.out.alloc _, fun _ => ⟨_, _, _, rfl, hn, Hle.out, Hv.out.calm ((Calm.refl _).alloc _)⟩, fun h => absurd E.out h⟩
    · have hln : ((l.map (·.data.toList)).mergeSort leT).length = l.length := by rw [List.length_mergeSort, List.length_map]
      have hH : Holds encStr w2 gb 0 ((l.map (·.data.toList)).mergeSort leT).toArray := holds_of_block hgb (by simpa [hln] using r4)
      have cS := Tryd.slices_Compact_string gb 0 cap2 ((l.map (·.data.toList)).mergeSort leT) w2 hH (by omega) (by omega)
      rw [hln] at cS
      have cS := box cS
      have HC := box hC
      have hbase2 : w.heap.size ≤ gb := by have := C1.out.size; simp at hbase; omega
      clear hrow hC hc2 hgb r4 r3 hH
      go_wp2_with fail
      refine cS.out.mono ?_
      rw [hm]
      rintro e w3 ⟨rfl, q, hw3⟩
      have C3 := box (show Calm w w3 by rw [hw3]; exact calm_put0 HC.out hbase2)
      clear hw3
      by_cases hu : unlikeB l = true
      · have e1 : newC l = if 4 < l.length then 6 else 0 := by rw [hn0, if_neg (by rw [hu]; simp)]
        have hmt : ¬ m < l.length := by have := Hun.out; rw [hu, decide_eq_true_iff] at this; omega
        by_cases h4 : 4 < l.length
        · have e2 : newC l = 6 := by rw [e1, if_pos h4]
          have E := box e2
          clear e1 e2 hn0 Hun
          go_wp2_with fail
          go_ret2
          exact ⟨_, by rw [E.out]; rfl, C3.out, fun h => absurd (E.out.symm.trans h) (by decide), fun _ => rfl⟩
        · have e2 : newC l = 0 := by rw [e1, if_neg h4]
          have E := box e2
          clear e1 e2 hn0 Hun
          go_wp2_with fail
          refine (hcl.out _ C3.out).mono ?_
          rintro e w5 ⟨va, vcap, rfl, hle, hv, hc5⟩
          have Hv := box hv; have Hle := box hle
          have C5 := box (C3.out.trans hc5)
          have hb : ∀ (w : World), (Instr.build 42 #[(0, .slice va l.length vcap)]).run Tryd.prog w = .ok (.agg #[.slice va l.length vcap]) w := fun w => run_build w 42 _ _ (by rfl)
          clear hv hc5 hle
          go_wp2_with fail
          go_ret2
          have hn := heap_new w5 (.cells #[.slice va l.length vcap] 42)
          exact ⟨_, by rw [E.out]; rfl, C5.out.alloc _, fun _ => ⟨_, _, _, rfl, hn, Hle.out, Hv.out.calm ((Calm.refl _).alloc _)⟩, fun h => absurd E.out h⟩
      · have hu' : unlikeB l = false := by simpa using hu
        have e1 : newC l = 10 := by rw [hn0, if_pos hu']
        have hmt : m < l.length := by have := Hun.out; rw [hu', decide_eq_false_iff_not] at this; omega
        have E := box e1
        clear e1 hn0 Hun
        go_wp2_with fail
        go_ret2
        exact ⟨_, by rw [E.out]; rfl, C3.out, fun h => absurd (E.out.symm.trans h) (by decide), fun _ => rfl⟩
end Go.Proofs.YtofffmnkoelifaaDoor.tg

/- Layer 9: the filter of a text; a filter's text; a filter that isn't there. -/
namespace Go.Proofs.YtofffmnkoelifaaDoor.tg
open Go.ChangeShapes Go.WideShapes Go.ChangeAt Go.RowKit Go.Shelf Go.Sort
open Go.Proofs.YtofffmnkoelifaaDoor.nm Go.Proofs.YtofffmnkoelifaaDoor.vs Go.Proofs.YtofffmnkoelifaaDoor.rc

/-- The tags of a text. -/
def tagsOf (s : ByteArray) : List ByteArray := if s = starC then [] else Lib.splitB orC 0 (Lib.countB s orC) s
def parseC (s : ByteArray) : Int := if newC (tagsOf s) = 0 then 0 else 4
theorem split_len (s : ByteArray) : (Lib.splitB orC 0 (Lib.countB s orC) s).length = Lib.countB s orC + 1 := Lib.splitB_all orC (by decide) 0 _ s rfl
theorem split_few (s : ByteArray) : (Lib.splitB orC 0 (Lib.countB s orC) s).length ≤ s.size + 1 := by
  rw [split_len]
  have := Lib.countB_le orC (by decide) s.size s (Nat.le_refl _)
  omega
/-- What is cut, joined, is the text. -/
theorem split_join (s : ByteArray) : (⟨(Lib.join ((Lib.splitB orC 0 (Lib.countB s orC) s).map (·.data.toList)) orC.data.toList).toArray⟩ : ByteArray) = s := by
  rw [Lib.splitB_data, join_split]
def ParseDone (s : ByteArray) (w : World) (e : Ending) (w' : World) : Prop := ∃ f, e = .returned (.tuple #[f, .int .i64 (parseC s)]) ∧ Calm w w' ∧ (parseC s = 0 → FilAt w' f (tagsOf s)) ∧ (parseC s ≠ 0 → f = .pointer none)
set_option maxRecDepth 100000 in
set_option maxHeartbeats 4000000 in
theorem Parse_any (s : ByteArray) (m : Int) (w : World) (hm : w.cell? ⟨0, 0, none⟩ = some (.int .i64 m)) (hs : s.size ≤ 100000) :
    Calls Tryd.prog 9 #[.string s] w (ParseDone s w) := by
  by_cases h0 : s = starC
  · have ht : tagsOf s = [] := if_pos h0
    have hn : newC [] = 0 := rfl
    have hp : parseC s = 0 := by unfold parseC; rw [ht, if_pos hn]
    have P := box hp
    have T := box ht
    have hnew := box (New_any (.slice none 0 0) [] w (.inl ⟨rfl, _, _, rfl⟩) (by simp))
    subst h0
    clear hp ht
    go_enter Tryd.func9, Tryd.ntmps9
    go_wp2_with fail
    refine hnew.out.mono ?_
    rintro e w1 ⟨f, rfl, hc, hf, _⟩
    have C := box hc
    have F := box (hf rfl)
    clear hc hf
    rw [hn]
    go_wp2_with fail
    go_ret2
    exact ⟨f, by rw [P.out]; rfl, C.out, fun _ => by rw [T.out]; exact F.out, fun h => absurd P.out h⟩
  · have ht : tagsOf s = Lib.splitB orC 0 (Lib.countB s orC) s := if_neg h0
    have hb : (s.toList == [42]) = false := beq_eq_false_iff_ne.2 (fun e => h0 (ba_ext (by rw [← Lib.toList_data, e])))
    have hsp := box (Tryd.strings_Split s orC m w (by omega) hm (by decide))
    have hlen := split_len s
    have hfew := split_few s
    have T := box ht
    have P := box (show parseC s = if newC (tagsOf s) = 0 then 0 else 4 from rfl)
    rw [ht] at P
    rw [← hlen] at hsp
    obtain ⟨L, hL⟩ : ∃ L, Lib.splitB orC 0 (Lib.countB s orC) s = L := ⟨_, rfl⟩
    rw [hL] at hsp hfew P T
    have hnew := box (fun (w1 : World) (h1 : w1 = w.alloc (.cells (L.map Value.string).toArray 9)) => New_any (.slice (some ⟨w.heap.size, 0, none⟩) L.length L.length) L w1 (.inr ⟨w.heap.size, 0, L.length, rfl, fun k hk => by
      subst h1
      rw [Nat.zero_add, cell_of (heap_new w _)]
      simp [List.getD_eq_getElem?_getD, hk]⟩) (by omega))
    have hca := box (fun (w1 : World) (h1 : w1 = w.alloc (.cells (L.map Value.string).toArray 9)) => (show Calm w w1 by rw [h1]; exact (Calm.refl w).alloc _))
    clear hlen hfew hL ht h0 hm
    go_enter Tryd.func9, Tryd.ntmps9
    go_wp2_with fail
    refine hsp.out.mono ?_
    rintro e w1 ⟨rfl, hw1⟩
    have hn1 := box (hnew.out w1 hw1)
    have hc1 := box (hca.out w1 hw1)
    clear hw1 hsp hnew hca
    go_wp2_with fail
    refine hn1.out.mono ?_
    rintro e w2 ⟨f, rfl, hc, hf, hg⟩
    have C := box (hc1.out.trans hc)
    have F := box hf
    clear hc hf hg
    by_cases hz : newC L = 0
    · have P2 := box (show parseC s = 0 by rw [P.out, if_pos hz])
      have F2 := box (F.out hz)
      rw [hz]
      go_wp2_with fail
      go_ret2
      exact ⟨f, by rw [P2.out]; rfl, C.out, fun _ => by rw [T.out]; exact F2.out, fun h => absurd P2.out h⟩
    · have P2 := box (show parseC s = 4 by rw [P.out, if_neg hz])
      have hzb : (newC L == 0) = false := beq_eq_false_iff_ne.2 hz
      obtain ⟨n, hn⟩ : ∃ n, newC L = n := ⟨_, rfl⟩
      rw [hn] at hzb ⊢
      clear hz hn F P
      go_wp2_with fail
      go_ret2
      exact ⟨_, by rw [P2.out]; rfl, C.out, fun h => absurd (P2.out.symm.trans h) (by decide), fun _ => rfl⟩
/-- A filter's text. -/
def textB (T : List ByteArray) : ByteArray := if T = [] then starC else ⟨(Lib.join (T.map (·.data.toList)) orC.data.toList).toArray⟩
set_option maxRecDepth 100000 in
theorem Text_any (f : Value) (T : List ByteArray) (w : World) (h : FilAt w f T) (hl : T.length ≤ 1000000) (hj : (Lib.join (T.map (·.data.toList)) orC.data.toList).length ≤ 140737488355328) :
    Calls Tryd.prog 10 #[f] w fun e w' => e = .returned (.string (textB T)) ∧ Calm w w' := by
  obtain ⟨q, a, c, rfl, hq, hle, hst⟩ := h
  have c0 := cell_of hq 0
  have hlt := heap_lt hq
  by_cases hT : T = []
  · subst hT
    have e0 : textB [] = starC := rfl
    rw [e0]
    clear e0 hst hq hle
    go_enter Tryd.func10, Tryd.ntmps10
    go_wp2_with fail
    go_ret
    exact ⟨rfl, Calm.refl _⟩
  · have hpos : 0 < T.length := List.length_pos_iff.2 hT
    have E := box (show textB T = ⟨(Lib.join (T.map (·.data.toList)) orC.data.toList).toArray⟩ from if_neg hT)
    have hst0 := hst
    rcases hst0 with ⟨h1, _⟩ | ⟨b, off, cap, he, hc⟩
    · exact absurd h1 hT
    · cases he
      have hjo := box (Tryd.strings_Join b off c T orC w (fun j x hx => by
        have hj' := (List.getElem?_eq_some_iff.1 hx).1
        rw [hc j hj', List.getD_eq_getElem?_getD, hx]; rfl) (World.block_lt_of_cell? w ⟨b, off + 0, none⟩ (hc 0 hpos)) (by omega) hle hj)
      have hTn : ¬ T.length = 0 := by omega
      clear hst hc hq hj
      go_enter Tryd.func10, Tryd.ntmps10
      go_wp2_with fail
      refine hjo.out.mono ?_
      rintro e w1 ⟨rfl, hc⟩
      have C := box hc
      clear hc
      go_wp2_with fail
      go_ret
      exact ⟨by rw [E.out]; rfl, C.out⟩
theorem text_of (s : ByteArray) : textB (tagsOf s) = s := by
  unfold textB tagsOf
  by_cases h : s = starC
  · rw [if_pos h, if_pos rfl, h]
  · rw [if_neg h, if_neg, split_join]
    intro e
    have := split_len s
    rw [e] at this
    simp at this
/-! A filter that isn't there. -/
theorem Text_nil (w : World) : Calls Tryd.prog 10 #[.pointer none] w fun e w' => e = .returned (.string ⟨#[]⟩) ∧ w = w' := by
  go_enter Tryd.func10, Tryd.ntmps10
  go_wp2_with fail
  go_ret
  exact ⟨rfl, rfl⟩
theorem any_nil (fv : Value) (w : World) : Calls Tryd.prog 18 #[.pointer none, fv] w fun e w' => e = .returned (.bool false) ∧ w = w' := by
  go_enter Tryd.func18, Tryd.ntmps18
  go_wp2_with fail
  go_ret
  exact ⟨rfl, rfl⟩
theorem Wants_nil (s : ByteArray) (w : World) : Calls Tryd.prog 7 #[.pointer none, .string s] w fun e w' => e = .returned (.bool false) ∧ Calm w w' := by
  have h := box (fun fv w => any_nil fv w)
  go_enter Tryd.func7, Tryd.ntmps7
  go_wp2_with fail
  refine (h.out _ _).mono ?_
  rintro e w1 ⟨rfl, rfl⟩
  go_wp2_with fail
  go_ret
  exact ⟨rfl, (Calm.refl w).alloc _⟩
theorem Quick_nil (n : Int) (w : World) : Calls Tryd.prog 8 #[.pointer none, .int .i64 n] w fun e w' => e = .returned (.bool false) ∧ Calm w w' := by
  have h := box (fun fv w => any_nil fv w)
  go_enter Tryd.func8, Tryd.ntmps8
  go_wp2_with fail
  refine (h.out _ _).mono ?_
  rintro e w1 ⟨rfl, rfl⟩
  go_wp2_with fail
  go_ret
  exact ⟨rfl, (Calm.refl w).alloc _⟩
theorem Of_nil (b : Nat) (s : ByteArray) (w : World) (hb : w.cell? ⟨b, 0, none⟩ = some (.string s)) : Calls Tryd.prog 11 #[.pointer none, .slice (some ⟨b, 0, none⟩) 1 1] w fun e w' => e = .returned (.slice none 0 0) ∧ Calm w w' := by
  have h := box (fun w => Wants_nil s w)
  have hbl : b < w.heap.size := World.block_lt_of_cell? w ⟨b, 0, none⟩ hb
  go_enter Tryd.func11, Tryd.ntmps11
  go_wp2_with fail
  go_loopw [5, 10] (fun o i wr => o = .slice none 0 0 ∧ ((i = .int .i64 0 ∧ wr = w) ∨ (i = .int .i64 1 ∧ Calm w wr))) (fun _ i _ => 1 - (intOf i).toNat)
  case atStart => exact ⟨rfl, .inl ⟨rfl, rfl⟩⟩
  case round =>
    obtain ⟨rfl, hrel⟩ := hrel
    rcases hrel with ⟨rfl, rfl⟩ | ⟨rfl, hc⟩
    · go_wp2_with fail
      refine (h.out _).mono ?_
      rintro e w1 ⟨rfl, hc⟩
      have C := box hc
      clear hc
      go_wp2_with fail
      go_roundw
      case rel => exact ⟨rfl, .inr ⟨by first | rfl | go_num, C.out⟩⟩
      case measure => simp [intOf]
    · go_wp2_with fail
      go_ret
      exact ⟨rfl, hc⟩
end Go.Proofs.YtofffmnkoelifaaDoor.tg

/- Layer 9: what a filter wants; the example. -/
namespace Go.Proofs.YtofffmnkoelifaaDoor.tg
open Go.ChangeShapes Go.WideShapes Go.ChangeAt Go.RowKit Go.Shelf Go.Sort
open Go.Proofs.YtofffmnkoelifaaDoor.nm Go.Proofs.YtofffmnkoelifaaDoor.vs Go.Proofs.YtofffmnkoelifaaDoor.rc

theorem want_one (B : Nat) (x s : ByteArray) (W : World) (hc : W.cell? ⟨B, 0, none⟩ = some (.string s)) : FnGives Tryd.prog 19 #[.pointer (some ⟨B, 0, none⟩)] #[.string x] (.bool (x.toList == s.toList)) W := by
  show Calls Tryd.prog 19 #[.string x, .pointer (some ⟨B, 0, none⟩)] W _
  have hbl : B < W.heap.size := World.block_lt_of_cell? W ⟨B, 0, none⟩ hc
  go_enter Tryd.func19, Tryd.ntmps19
  go_wp2_with fail
  go_ret
  exact ⟨rfl, 0, rfl⟩
/-- Is a tag wanted? -/
def wantsB (T : List ByteArray) (s : ByteArray) : Bool := T.isEmpty || T.any (fun x => x.toList == s.toList)
set_option maxRecDepth 100000 in
set_option maxHeartbeats 1000000 in
theorem Wants_any (f : Value) (T : List ByteArray) (s : ByteArray) (w : World) (h : FilAt w f T) (hl : T.length ≤ 1000000) :
    Calls Tryd.prog 7 #[f, .string s] w fun e w' => e = .returned (.bool (wantsB T s)) ∧ Calm w w' := by
  obtain ⟨W1, hW1⟩ : ∃ W1, w.alloc (.cells #[.string s] 9) = W1 := ⟨_, rfl⟩
  have J0 := box (show W1.heap[w.heap.size]? = some (.cells #[.string s] 9 (0, 0)) by rw [← hW1]; exact heap_new w _)
  have hc : Calm w W1 := by rw [← hW1]; exact (Calm.refl w).alloc _
  have C1 := box hc
  have hany : Calls Tryd.prog 18 #[f, .func (.func 19) #[] #[.pointer (some ⟨w.heap.size, 0, none⟩)]] W1 fun e w' => e = .returned (.bool (wantsB T s)) ∧ Calm W1 w' := by
    obtain ⟨q, a, c, rfl, hq, hle, hst⟩ := h.calm hc
    have c0 := cell_of hq 0
    have hlt := heap_lt hq
    have hp : PredAt Tryd.prog 19 #[.pointer (some ⟨w.heap.size, 0, none⟩)] Value.string (fun x => x.toList == s.toList) W1 := fun W x hb => want_one _ x s W ((hb.cell (p := ⟨w.heap.size, 0, none⟩) (heap_lt J0.out)).trans (cell_of J0.out 0))
    by_cases hT : T = []
    · subst hT
      have e0 : wantsB [] s = true := rfl
      rw [e0]
      clear hst hq hle hp e0
      go_enter Tryd.func18, Tryd.ntmps18
      go_wp2_with fail
      go_ret
      exact ⟨rfl, Calm.refl _⟩
    · have hpos : 0 < T.length := List.length_pos_iff.2 hT
      have E := box (show wantsB T s = T.any (fun x => x.toList == s.toList) by unfold wantsB; rw [List.isEmpty_eq_false_iff.2 hT]; rfl)
      have hst0 := hst
      rcases hst0 with ⟨h1, _⟩ | ⟨b, off, cap, he, hc⟩
      · exact absurd h1 hT
      · cases he
        have hco := Tryd.slices_ContainsFunc Value.string (fun x => x.toList == s.toList) 19 #[.pointer (some ⟨w.heap.size, 0, none⟩)] (enters_of Tryd.func19 (by kernel_rfl) rfl) b off T.length c T W1 hp (Nat.le_refl _) (by omega) (fun j hj => by
          rw [hc j hj, List.getD_eq_getElem?_getD, getElem!_pos T j hj, List.getElem?_eq_getElem hj]; rfl)
        rw [List.take_length] at hco
        have Hco := box hco
        have hTn : ¬ T.length = 0 := by omega
        have hTb : (((T.length : Nat) : Int) == 0) = false := beq_eq_false_iff_ne.2 (by omega)
        rw [E.out]
        obtain ⟨r, hr⟩ : ∃ r, T.any (fun x => x.toList == s.toList) = r := ⟨_, rfl⟩
        rw [hr] at Hco ⊢
        clear hst hc hq hco hp hr
        go_enter Tryd.func18, Tryd.ntmps18
        go_wp2_with fail
        refine Hco.out.mono ?_
        rintro e w1 ⟨rfl, n, rfl⟩
        go_wp2_with fail
        go_ret
        exact ⟨rfl, (Calm.refl _).drewN _⟩
  have Hany := box hany
  obtain ⟨r, hr⟩ : ∃ r, wantsB T s = r := ⟨_, rfl⟩
  rw [hr] at Hany ⊢
  clear h hany hc hr
  go_enter Tryd.func7, Tryd.ntmps7
  go_wp2_with fail
  refine Hany.out.mono ?_
  rintro e w2 ⟨rfl, hc⟩
  have C2 := box (C1.out.trans hc)
  clear hc
  go_wp2_with fail
  go_ret
  exact ⟨rfl, C2.out⟩
abbrev exC : ByteArray := ⟨#[120, 32, 124, 124, 32, 121]⟩
theorem ex_tags : tagsOf exC = [⟨#[120]⟩, ⟨#[121]⟩] := by kernel_rfl
theorem ex_parse : parseC exC = 0 := by unfold parseC; rw [ex_tags, if_pos]; rfl
theorem awake_any (m : Int) (w : World) (hm : w.cell? ⟨0, 0, none⟩ = some (.int .i64 m)) : Calls Tryd.prog 5 #[] w fun e w' => e = .returned (.bool true) ∧ Calm w w' := by
  have hp := box (Parse_any exC m w hm (by decide))
  go_enter Tryd.func5, Tryd.ntmps5
  go_wp2_with fail
  refine hp.out.mono ?_
  rintro e w1 ⟨f, rfl, hc, hf, _⟩
  have hf := hf ex_parse
  rw [ex_tags] at hf
  have C1 := box hc
  have F1 := box hf
  have w1' := box (Wants_any f _ ⟨#[121]⟩ w1 hf (by simp))
  rw [show wantsB [⟨#[120]⟩, ⟨#[121]⟩] ⟨#[121]⟩ = true by unfold wantsB; simp only [Lib.toList_data]; rfl] at w1'
  clear hc hf
  rw [ex_parse]
  go_wp2_with fail
  refine w1'.out.mono ?_
  rintro e w2 ⟨rfl, hc⟩
  have C2 := box (C1.out.trans hc)
  have w2' := box (Wants_any f _ ⟨#[122]⟩ w2 (F1.out.calm hc) (by simp))
  rw [show wantsB [⟨#[120]⟩, ⟨#[121]⟩] ⟨#[122]⟩ = false by unfold wantsB; simp only [Lib.toList_data]; rfl] at w2'
  clear hc
  go_wp2_with fail
  refine w2'.out.mono ?_
  rintro e w3 ⟨rfl, hc⟩
  have C3 := box (C2.out.trans hc)
  clear hc
  go_wp2_with fail
  go_ret
  exact ⟨rfl, C3.out⟩
end Go.Proofs.YtofffmnkoelifaaDoor.tg
