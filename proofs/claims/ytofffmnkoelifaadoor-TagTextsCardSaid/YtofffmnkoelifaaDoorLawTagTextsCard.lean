/- TagTexts: any text is a filter's, which has just it, or none's; what isn't there wants nothing. No condition. -/
import Derived.Test.YtofffmnkoelifaaDoorRows
import Derived.WalkKit
import Derived.ProofKit
import Derived.OpenShut
import Derived.Handy
import Derived.Deep.LoopGhost
import Derived.Lib.Hide
import Derived.Lib.Strings
import Derived.SizedLaws
import Derived.Deep.Slices
import Derived.Shelf.SlIter.Nil
import Derived.Ground.GgzProg
import Derived.Shelf.SortM.Plain
import Derived.Shelf.SortM.SortNone
import Derived.Ground.SlgmProg
import Derived.Test.YtofffmnkoelifaaDoorProg
import Derived.Shelf.Strings.Builder1
import Derived.Shelf.Strings.Builder2
import Derived.Shelf.Strings.OnBuilder
import Derived.Shelf.Small.Bits
import Derived.Shelf.Strings.BuilderF
import Derived.Shelf.Strings.BuilderK
import Derived.Shelf.Utf8.RuneCount
import Derived.Shelf.Strings.Builder2Cap
import Derived.Shelf.Strconv.Itoa0
import Derived.Shelf.Strings.Search1
import Derived.Shelf.Strings.Search2
import Derived.Shelf.Strings.Search3
import Derived.Shelf.Strings.Count
import Derived.Shelf.LaysM
import Derived.Shelf.Strings.Shaped
import Derived.Shelf.Sort.Plain
import Derived.Shelf.GgClosure.StringsIndexFunc
import Derived.Ground.GgwProg
import Derived.Shelf.GgClosure.StringsIndexFuncTop
import Derived.Shelf.GgClosure.StringsRunes
import Derived.Shelf.Strings.Split
import Derived.Shelf.Strings.SplitShaped
import Derived.Shelf.Unicode.Decode
import Derived.Shelf.Strings.RuneCount
import Derived.Shelf.Strings.Explode
import Derived.Shelf.Unicode.DecodeSlow
import Derived.Shelf.Unicode.DecodeAny
import Derived.Shelf.Strings.BuilderCap
import Derived.Ground.Names2Prog
import Derived.Shelf.Slices.Clone
import Derived.Shelf.Slices.CompactS
import Derived.Shelf.Slices.Cells
import Derived.Shelf.Slices.In.SortNone
import Derived.Ground.SlgnProg
import Derived.Shelf.SlicesE.Compact
import Derived.Shelf.SlicesE.Clone
import Derived.Ground.SlgfProg
import Derived.Shelf.SlicesE.IndexFunc
import Derived.RangeFuncBox
import Derived.RangeFuncLeaves
import Derived.Shelf.Abstract
import Derived.OwnWalkIn
import Derived.TacticsInMore
import Derived.LoopNIn
import Derived.LoopIn
import Derived.Maps.AppendAt
import Derived.Lib.SlicesCompact
import Derived.Deep.QuietTactic
import Derived.BigQuiet
import Derived.Laws.ResultCell
import Derived.Laws.Rows
import Derived.Lib.SplitLaws
import Derived.Lib.Join
import Derived.Lib.IndexMore
import Derived.Test.YtofffmnkoelifaaDoorTie
import Derived.Test.YtofffmnkoelifaaDoorCards
import Derived.LaidMore
import Derived.Lay
import Derived.SevenTiedAt
import Derived.HandedShaped
import Derived.Stop.Joined
import Derived.Shelf.Vars
import Derived.Test.YtofffmnkoelifaaDoorPk10
namespace Go.Proofs.YtofffmnkoelifaaDoor.ttexts
open Go.ChangeShapes Go.WideShapes Go.ChangeAt Go.RowKit Go.Shelf
open Go.Proofs.YtofffmnkoelifaaDoor.nm Go.Proofs.YtofffmnkoelifaaDoor.vs Go.Proofs.YtofffmnkoelifaaDoor.rc Go.Proofs.YtofffmnkoelifaaDoor.tg

theorem tags_few (s : ByteArray) : (tagsOf s).length ≤ s.size + 1 := by
  unfold tagsOf
  split
  · simp
  · exact split_few s
theorem join_size (s : ByteArray) : (Lib.join ((tagsOf s).map (·.data.toList)) orC.data.toList).length ≤ s.size := by
  unfold tagsOf
  split
  · simp [Lib.join_nil]
  · rw [Lib.splitB_data, join_split, size_toList]; exact Nat.le_refl _
set_option maxRecDepth 100000 in
set_option maxHeartbeats 4000000 in
theorem walk (W : World) (hsh : W.ShapedOpen Tryd.prog) (s : ByteArray) (hs : s.size ≤ maxLen) (h : Int) (_hw : (Lit.int .i64 h).wf = true) :
    Calls Tryd.prog 4 #[.string s, .int .i64 h] W fun e W' => e = .returned (.bool true) ∧ Calm W W' := by
  obtain ⟨m, hm⟩ := max_len hsh
  have haw := box (awake_any m W hm)
  have hpa := box (fun (w : World) (hc : Calm W w) (h3 : s.size ≤ 300) => Parse_any s m w ((hc.cell (p := ⟨0, 0, none⟩) (World.block_lt_of_cell? W ⟨0, 0, none⟩ hm)).trans hm) (by omega))
  unfold maxLen at hs
  clear hsh hm
  go_enter Tryd.func4, Tryd.ntmps4
  go_wp2_with fail
  refine haw.out.mono ?_
  rintro e w1 ⟨rfl, hc⟩
  have C1 := box hc
  clear hc haw
  by_cases h3 : 300 < s.size
  · go_wp2_with fail
    go_ret
    exact ⟨rfl, C1.out⟩
  · go_wp2_with fail
    refine (hpa.out _ C1.out (by omega)).mono ?_
    rintro e w2 ⟨f, rfl, hc, hf, hg⟩
    have C2 := box (C1.out.trans hc)
    have F2 := box hf
    have G2 := box hg
    clear hc hf hg hpa
    go_wp2_with fail
    refine (Text_nil _).mono ?_
    rintro e w3 ⟨rfl, rfl⟩
    go_wp2_with fail
    refine (Quick_nil _ _).mono ?_
    rintro e w3 ⟨rfl, hc3⟩
    go_wp2_with fail
    refine (Wants_nil _ _).mono ?_
    rintro e w4 ⟨rfl, hc4⟩
    have Ca := box (hc3.trans (hc4.trans ((Calm.refl w4).alloc (.cells #[.string s] 9))))
    have hof := box (Of_nil w4.heap.size s (w4.alloc (.cells #[.string s] 9)) (cell_of (heap_new w4 _) 0))
    clear hc3 hc4
    go_wp2_with fail
    refine hof.out.mono ?_
    rintro e w5 ⟨rfl, hc5⟩
    have Cb := box (Ca.out.trans hc5)
    have C5 := box (C2.out.trans Cb.out)
    clear hc5 hof
    by_cases hz : parseC s = 0
    · have F5 := box ((F2.out hz).calm Cb.out)
      have htx := box (Text_any f (tagsOf s) w5 F5.out (by have := tags_few s; omega) (by have := join_size s; omega))
      rw [text_of] at htx
      rw [hz]
      go_wp2_with fail
      refine htx.out.mono ?_
      rintro e w6 ⟨rfl, hc6⟩
      have C6 := box (C5.out.trans hc6)
      clear hc6
      go_wp2_with fail
      go_ret
      exact ⟨ret_bool (by simp), C6.out⟩
    · have h4 : parseC s = 4 := by
        unfold parseC at hz ⊢
        split at hz
        · exact absurd rfl hz
        · rename_i h; rw [if_neg h]
      obtain rfl := G2.out hz
      rw [h4]
      go_wp2_with fail
      go_ret
      exact ⟨rfl, C5.out⟩

abbrev LAIDS : List (String × DataW Unit) := [("unicode/utf8.acceptRanges", Rows.laid_unicode_utf8_acceptRanges), ("unicode/utf8.first", Rows.laid_unicode_utf8_first)]
theorem own : ownKnob Tryd.prog.godebug = none := by kernel_rfl
theorem laidOut : laidOutB Tryd.prog = true := by kernel_rfl
set_option maxRecDepth 100000 in
set_option linter.unusedVariables false in
theorem lifted (os : Os) (started : os.Started) (H : Type) (enc : TypeId × Value → H) :
    ReturnsInHanded {} Tryd.checked os 4 .any (fun w args => (Rows.tagTextsSpec.pre enc Tryd.prog Tryd.f4 Rows.tagTextsRow.domain false w args ∧ laidMetH Tryd.prog LAIDS w) ∧ sizedMet enc Tryd.prog Tryd.f4 (OpenSpec.ofChange Rows.tagTextsSpec) false w args) (Rows.tagTextsSpec.post enc Tryd.prog Tryd.f4 false true false false) := by
  refine handed_and_shaped (C := Tryd.checked) (X := fun w _ => laidMetH Tryd.prog LAIDS w) (fun _ _ _ hh h => h.of_heap hh) own started (by kernel_rfl) Tryd.func4
    (ChangeSpec.witness_shaped (enc := enc) (C := Tryd.checked) (os := os) (X := fun w _ => laidMetH Tryd.prog LAIDS w) false (World.laidAll Tryd.prog os LAIDS) #[.string ⟨#[]⟩, .int .i64 0] 8 (World.laidAll_os _ _ _)
      (World.shaped_of_ZipB (by kernel_rfl) (by kernel_rfl)) (by kernel_rfl) (by kernel_rfl) (by kernel_rfl)
      (by rw [MakeChecks.laidMetH_plain _ _ _ (by kernel_rfl)]; exact laidMet_laidAll _ (by kernel_rfl) (by kernel_rfl))) ?_
  intro W base args ds gs before hval0 hW hcnd hsz0 _ hshape _
  have hsz : (DataW.weightsEach Tryd.prog (Tryd.f4.params.toList ++ []) (ds ++ gs)).all (· ≤ reachBytes) = true := hsz0
  clear hsz0
  have hval : ∀ (j : Nat) t v, Tryd.f4.params[j]? = some t → args[j]? = some v → Value.okWide Tryd.prog W .any base t v := hval0
  have hW' := hW
  obtain ⟨p, q, hA0, hV, rfl, hfz, hnd⟩ := hW
  have hA : DataW.TrodAll enc Tryd.prog W 0 (fun _ => true) true Tryd.f4.params.toList args.toList ds p := hA0
  rw [Tryd.params4] at hA hval hsz
  obtain ⟨v0, vs0, d0, ds0, p0, q0, hargs, rfl, rfl, h0, r0'⟩ := trodAll_cons hA
  obtain ⟨v1, vs1, d1, ds1, p1, q1, rfl, rfl, rfl, h1, r1'⟩ := trodAll_cons r0'
  obtain ⟨rfl, rfl, rfl⟩ := trodAll_nil r1'
  obtain rfl : args = #[v0, v1] := by cases args; simp_all
  obtain ⟨rfl, rfl⟩ := trodVars_none hV
  clear hA0 hval0
  have wt0 := fun n hn => (by simpa using List.all_eq_true.1 hsz n (DataW.weights_mem_each (j := 0) rfl rfl n hn) : n ≤ reachBytes)
  have wt1 := fun n hn => (by simpa using List.all_eq_true.1 hsz n (DataW.weights_mem_each (j := 1) rfl rfl n hn) : n ≤ reachBytes)
  have hlt : ∀ x ∈ p0 ++ (p1 ++ []), x.block < W.heap.size := fun x hx => by have := hW'.lt x (by simpa using hx); simpa using this
  obtain ⟨s0, e0, _, _, z0⟩ := Go.ChangeMaps.open_string Tryd.underlying9 (hval 0 9 v0 rfl rfl) h0
  subst e0
  obtain ⟨a1, e1, _, _, w1⟩ := open_int Tryd.underlying3 (hval 1 3 v1 rfl rfl) h1
  subst e1
  refine (walk W hshape s0 z0 a1 w1).mono fun e W' ⟨he, hg⟩ => ?_
  subst he
  refine ⟨_, rfl, _, _, _, [] ++ [], p0 ++ (p1 ++ []), [], hW', ?_, ?_, ?_, hg.frame _, fun h => by cases h⟩
  · exact trodAll_mk1 (shut_bool Tryd.underlying4 true)
  · exact trodAll_cons_mk (Below.trod laidOut (by kernel_rfl) (of_decide_eq_true (by kernel_rfl)) h0 hg (fun x hx => hlt x (by simp [hx]))) (trodAll_cons_mk (Below.trod laidOut (by kernel_rfl) (of_decide_eq_true (by kernel_rfl)) h1 hg (fun x hx => hlt x (by simp [hx]))) (trodAll_mk0))
  · exact rfl

theorem over : Rows.tagTextsRow.holds Tryd.pinned (OpenSpec.ofChange Rows.tagTextsSpec) :=
  OpenClaim.holds_of_wide 4 Tryd.f4 rfl rfl rfl rfl rfl rfl rfl ⟨rfl, rfl, rfl, rfl, rfl⟩ rfl rfl rfl rfl rfl (by kernel_rfl) Tryd.func4 (by kernel_rfl)
    (of_decide_eq_true (by kernel_rfl)) (by unfold Func.isWrapper; first | (rw [if_pos (by decide +kernel)]; kernel_rfl) | (rw [if_neg (by decide +kernel)]; exact ⟨rfl, rfl⟩))
    (fun os started H enc _ => lifted os started H enc)

theorem proved : Rows.TagTextsCardSaid :=
  Claim7.holds_tied_plain_at .later [] [.data, .pinned] true _ false over (fun _ h => by cases h) (by kernel_rfl) (fun _ h => by cases h) tagTexts_row_tie rfl ⟨rfl, rfl⟩ (by kernel_rfl) rfl
    (fun f fn hf hfn => by
      obtain rfl : f = 4 := Option.some.inj ((show Tryd.prog.funcNamed "reveille/reveillelaw09.TagTexts" = some 4 by kernel_rfl).symm.trans hf) |>.symm
      obtain rfl : fn = Tryd.f4 := (Option.some.inj (Tryd.func4.symm.trans hfn)).symm
      exact ⟨by kernel_rfl, fun j t ht => by
        rw [Tryd.params4] at ht
        have hm : t ∈ [9, 3] := by simpa using Array.mem_of_getElem? ht
        have hall : ([9, 3].all fun u => !Tryd.prog.wantsStandIn u) = true := by kernel_rfl
        exact (show Tryd.prog.wantsStandIn t = false by simpa using List.all_eq_true.1 hall t hm)⟩)
    (by kernel_rfl)
#print axioms proved
end Go.Proofs.YtofffmnkoelifaaDoor.ttexts
