/- WheelTurns: the hand goes on second by second, up to now, and never back; what isn't there has none. No condition. -/
import Derived.Test.YtbmhjojlbmbpkaaRows
import Derived.WalkKit
import Derived.ProofKit
import Derived.OpenShut
import Derived.Handy
import Derived.Deep.LoopGhost
import Derived.Lib.Hide
import Derived.Lib.Strings
import Derived.SizedLaws
import Derived.Maps.Own
import Derived.Maps.OwnOps
import Derived.Maps.OwnSet
import Derived.Maps.RangeWalk
import Derived.Deep.QuietTactic
import Derived.BigQuiet
import Derived.Deep.RegionHeld3
import Derived.Lib.ConvBytes
import Derived.Lib.AppendZeros
import Derived.Lib.AppendZerosOnto
import Derived.Lib.LazyBuf
import Derived.Shelf.Abstract
import Derived.LaidEql
import Derived.Lib.SliceRun
import Derived.StillTailTactics
import Derived.Deep.Slices
import Derived.Shelf.SlIter.Nil
import Derived.Ground.GgzProg
import Derived.Shelf.SortM.Plain
import Derived.Shelf.SortM.SortNone
import Derived.Ground.SlgmProg
import Derived.Shelf.SlicesE.DeleteFunc
import Derived.Ground.SlgfProg
import Derived.Test.YtbmhjojlbmbpkaaProg
import Derived.Shelf.Strings.Builder1
import Derived.Shelf.Small.Bits
import Derived.Shelf.Strings.BuilderF
import Derived.Shelf.Strings.BuilderK
import Derived.Shelf.Strconv.Itoa0
import Derived.Shelf.Sort.Plain
import Derived.Shelf.Strings.Prefix
import Derived.Shelf.Strings.BuilderCap
import Derived.Shelf.Slices.In.SortNone
import Derived.Shelf.SlicesE.IndexFunc
import Derived.Laws.MakeOwn
import Derived.Lib.Builder
import Derived.Lib.AppendStr
import Derived.Test.YtbmhjojlbmbpkaaPk15
namespace Go.Proofs.Ytbmhjojlbmbpkaa.wturns
open Go.ChangeShapes Go.WideShapes Go.ChangeAt Go.RowKit
open Go.Proofs.Ytbmhjojlbmbpkaa.dk Go.Proofs.Ytbmhjojlbmbpkaa.wh

set_option maxRecDepth 100000 in
set_option maxHeartbeats 8000000 in
theorem walk (W : World) (c : Int) (hwf : (Lit.int .i64 c).wf = true) (v : Value) (l : List Int) (r : RowsAt (IntR .i64) 1 W v l) :
    Calls Try.prog 9 #[.int .i64 c, v] W fun e W' => e = .returned (.bool true) ∧ Calm W W' := by
  obtain ⟨a, cap, rfl, hml, hel⟩ := r.nums
  have Hel := box hel
  have hc : -9223372036854775808 ≤ c ∧ c ≤ 9223372036854775807 := by unfold Lit.wf at hwf; simp [IntKind.min, IntKind.max, IntKind.bits, IntKind.signed] at hwf; omega
  clear hwf hel r
  obtain ⟨hc0, hc1⟩ := hc
  unfold maxLen at hml
  by_cases h200 : 200 < l.length
  · go_enter Try.func9, Try.ntmps9
    go_wp2_with fail
    refine (awake_any _).mono ?_
    rintro e w1 ⟨rfl, hca⟩
    have O1 := box ((Owns.refl W).calm' hca)
    clear hca
    go_wp2_with fail
    go_ret
    exact ⟨rfl, O1.out.calm⟩
  by_cases hbad : c < 0 ∨ 1099511627776 < c
  · have Hbad := box hbad
    clear hbad
    go_enter Try.func9, Try.ntmps9
    go_wp2_with fail
    refine (awake_any _).mono ?_
    rintro e w1 ⟨rfl, hca⟩
    have O1 := box ((Owns.refl W).calm' hca)
    clear hca
    go_wp2_with fail
    refine (New_ok _ 1000).mono ?_
    rintro e w2 ⟨p, F, rfl, h2, hc2, hF2⟩
    have O2 := box (O1.out.new hc2 hF2)
    clear h2 hc2 hF2
    go_wp2_with fail
    refine (NewBad_any (ptrTo p) c _ (.inr ⟨p, rfl, Hbad.out⟩)).mono ?_
    rintro e w3 ⟨rfl, rfl⟩
    have hbad := Hbad.out
    have hbad : c < 0 ∨ (0 ≤ c ∧ 1099511627776 < c) := by omega
    rcases hbad with h | ⟨h1, h2⟩
    all_goals
      go_wp2_with fail
      go_ret
      exact ⟨ret_bool (by simp), O2.out.calm⟩
  · have hg0 : 0 ≤ c := by omega
    have hg1 : c ≤ 1099511627776 := by omega
    clear hbad
    go_enter Try.func9, Try.ntmps9
    go_wp2_with fail
    refine (awake_any _).mono ?_
    rintro e w1 ⟨rfl, hca⟩
    have O1 := box ((Owns.refl W).calm' hca)
    clear hca
    go_wp2_with fail
    refine (New_ok _ 1000).mono ?_
    rintro e w2 ⟨p, F, rfl, h2, hc2, hF2⟩
    have H2 := box h2
    have O2 := box (O1.out.new hc2 hF2)
    clear h2 hc2 hF2
    go_wp2_with fail
    refine (New_1000 c _ H2.out ⟨hg0, hg1⟩).mono ?_
    rintro e w3 ⟨q, b, F3, rfl, h3, hs3, hq, hq3, hF3⟩
    have O3 := box (O2.out.step hs3)
    have Q3 := box hq
    have Hq := box (Nat.le_trans O2.out.calm.size hq3)
    clear h3 hs3 hq hq3 hF3
    go_wp2_with fail
    go_loopw [7, 49] (fun at_ i wr => ∃ (k : Nat) (t : Int), k ≤ l.length ∧ c ≤ t ∧ t ≤ c + k ∧ at_ = .int .i64 t ∧ i = .int .i64 k ∧ WheelAt wr q p t ∧ Calm W wr) (fun _ i _ => l.length - (intOf i).toNat)
    case atStart => exact ⟨0, c, Nat.zero_le _, Int.le_refl _, by omega, rfl, rfl, Q3.out, O3.out.calm⟩
    case round =>
      clear Q3 O3 H2 O2
      obtain ⟨k, t, hk, ht0, ht1, rfl, rfl, hq, hC⟩ := hrel
      have HQ := box hq
      have HC := box hC
      clear hq hC
      obtain ⟨wo, hwo⟩ : ∃ wo : World, wo = wr := ⟨_, rfl⟩
      subst hwo
      by_cases hlt : k < l.length
      · obtain ⟨lb, loff, rfl, hlb, hcell, hx0, hx1⟩ := Hel.out k hlt
        have hcell' := (HC.out.cell (p := ⟨lb, loff + k, none⟩) hlb).trans hcell
        have hlbo := Nat.lt_of_lt_of_le hlb HC.out.size
        obtain ⟨x, hx⟩ : ∃ x, l[k] = x := ⟨_, rfl⟩
        rw [hx] at hcell' hx0 hx1
        clear hx hcell hx0 hx1
        by_cases ho1 : x < -1125899906842624
        · go_wp2_with fail
          go_ret
          exact ⟨rfl, HC.out⟩
        by_cases ho2 : 1125899906842624 < x
        · go_wp2_with fail
          go_ret
          exact ⟨rfl, HC.out⟩
        have q1 : IntKind.i64.wrap (x - t) = x - t := IntWalk.i64_in _ (by omega)
        by_cases hxt : x ≤ t
        · go_wp2_with fail
          refine (Ahead_any q p t x _ HQ.out ⟨by omega, by omega⟩ ⟨by omega, by omega⟩).mono ?_
          rw [if_pos hxt]
          rintro e w4 ⟨rfl, rfl⟩
          go_wp2_with fail
          refine (Turn_any q p t x _ HQ.out ⟨by omega, by omega⟩).mono ?_
          rw [turned_stays hxt]
          rintro e w5 ⟨rfl, hq5, hk5⟩
          have Q5 := box hq5
          have C5 := box (Below.trans HC.out (hk5.below HC.out.size (fun y e => by have := Hq.out; omega)))
          clear hq5 hk5
          go_wp2_with fail
          refine (Hand_any q p t _ Q5.out).mono ?_
          rintro e w6 ⟨rfl, rfl⟩
          go_wp2_with fail
          go_roundw
          case rel => exact ⟨k + 1, t, by omega, ht0, by omega, rfl, by go_num, Q5.out, C5.out⟩
          case measure => simp [intOf]; omega
        · have hxt' : t < x := by omega
          go_wp2_with fail
          refine (Ahead_any q p t x _ HQ.out ⟨by omega, by omega⟩ ⟨by omega, by omega⟩).mono ?_
          rw [if_neg (show ¬ x ≤ t by omega)]
          rintro e w4 ⟨rfl, rfl⟩
          go_wp2_with fail
          refine (Turn_any q p t x _ HQ.out ⟨by omega, by omega⟩).mono ?_
          rw [turned_goes hxt']
          rintro e w5 ⟨rfl, hq5, hk5⟩
          have Q5 := box hq5
          have C5 := box (Below.trans HC.out (hk5.below HC.out.size (fun y e => by have := Hq.out; omega)))
          clear hq5 hk5
          go_wp2_with fail
          refine (Hand_any q p (t + 1) _ Q5.out).mono ?_
          rintro e w6 ⟨rfl, rfl⟩
          go_wp2_with fail
          go_roundw
          case rel => exact ⟨k + 1, t + 1, by omega, by omega, by omega, rfl, by go_num, Q5.out, C5.out⟩
          case measure => simp [intOf]; omega
      · obtain rfl : k = l.length := by omega
        go_wp2_with fail
        refine (HeadNil_any 0 _).mono ?_
        rintro e w4 ⟨rfl, rfl⟩
        go_wp2_with fail
        refine (HeadsNil_any _).mono ?_
        rintro e w4 ⟨rfl, rfl⟩
        go_wp2_with fail
        refine (TurnNil_any 9 _).mono ?_
        rintro e w4 ⟨rfl, rfl⟩
        go_wp2_with fail
        refine (NewBad_any (.pointer none) 0 _ (.inl rfl)).mono ?_
        rintro e w4 ⟨rfl, rfl⟩
        go_wp2_with fail
        refine (SetNil_any 0 0 _).mono ?_
        rintro e w4 ⟨rfl, rfl⟩
        go_wp2_with fail
        refine (HandNil_any _).mono ?_
        rintro e w4 ⟨rfl, rfl⟩
        go_wp2_with fail
        refine (AheadNil_any 5 _).mono ?_
        rintro e w4 ⟨rfl, rfl⟩
        go_wp2_with fail
        go_ret
        exact ⟨ret_bool (by simp), HC.out⟩

theorem own : ownKnob Try.prog.godebug = none := by kernel_rfl
theorem laidOut : laidOutB Try.prog = true := by kernel_rfl
set_option maxRecDepth 100000 in
set_option linter.unusedVariables false in
theorem lifted (os : Os) (started : os.Started) (H : Type) (enc : TypeId × Value → H) :
    ReturnsInHanded {} Try.checked os 9 .any (Rows.wheelTurnsSpec.pre6 enc Try.prog Try.f9 Rows.wheelTurnsRow.domain false) (Rows.wheelTurnsSpec.post enc Try.prog Try.f9 false true false false) := by
  refine returnsInHanded_of_change_sized (C := Try.checked) own started (by kernel_rfl) Try.func9
    (ChangeSpec.witness6 (enc := enc) (C := Try.checked) false ⟨#[], #[.int .i64 0, .slice none 0 0], []⟩ 8 (by kernel_rfl) (by kernel_rfl) (by kernel_rfl) (by kernel_rfl)) ?_
  intro W base args ds gs before hval0 hW hcnd hsz0 _
  have hsz : (DataW.weightsEach Try.prog (Try.f9.params.toList ++ []) (ds ++ gs)).all (· ≤ reachBytes) = true := hsz0
  clear hsz0
  have hval : ∀ (j : Nat) t v, Try.f9.params[j]? = some t → args[j]? = some v → Value.okWide Try.prog W .any base t v := hval0
  have hW' := hW
  obtain ⟨p, q, hA0, hV, rfl, hfz, hnd⟩ := hW
  have hA : DataW.TrodAll enc Try.prog W 0 (fun _ => true) true Try.f9.params.toList args.toList ds p := hA0
  rw [Try.params9] at hA hval hsz
  obtain ⟨v0, vs0, d0, ds0, p0, q0, hargs, rfl, rfl, h0, r0'⟩ := trodAll_cons hA
  obtain ⟨v1, vs1, d1, ds1, p1, q1, rfl, rfl, rfl, h1, r1'⟩ := trodAll_cons r0'
  obtain ⟨rfl, rfl, rfl⟩ := trodAll_nil r1'
  obtain rfl : args = #[v0, v1] := by cases args; simp_all
  obtain ⟨rfl, rfl⟩ := trodVars_none hV
  clear hA0 hval0
  have wt0 := fun n hn => (by simpa using List.all_eq_true.1 hsz n (DataW.weights_mem_each (j := 0) rfl rfl n hn) : n ≤ reachBytes)
  have wt1 := fun n hn => (by simpa using List.all_eq_true.1 hsz n (DataW.weights_mem_each (j := 1) rfl rfl n hn) : n ≤ reachBytes)
  have hlt : ∀ x ∈ p0 ++ (p1 ++ []), x.block < W.heap.size := fun x hx => by have := hW'.lt x (by simpa using hx); simpa using this
  obtain ⟨a0, e0, _, _, w0⟩ := open_int Try.underlying3 (hval 0 3 v0 rfl rfl) h0
  subst e0
  obtain ⟨l1, r1⟩ := slice_arg Try.underlying57 (hval 1 57 v1 rfl rfl) ((opens_slice (c := 1) Try.underlying57 (by kernel_rfl) (by decide) (opens_int Try.underlying3)).arg h1)
  refine (walk W a0 w0 v1 l1 r1).mono fun e W' ⟨he, hg⟩ => ?_
  subst he
  refine ⟨_, rfl, _, _, _, [] ++ [], p0 ++ (p1 ++ []), [], hW', ?_, ?_, ?_, hg.frame _, fun h => by cases h⟩
  · exact trodAll_mk1 (shut_bool Try.underlying4 true)
  · exact trodAll_cons_mk (Below.trod laidOut (by kernel_rfl) (of_decide_eq_true (by kernel_rfl)) h0 hg (fun x hx => hlt x (by simp [hx]))) (trodAll_cons_mk (Below.trod laidOut (by kernel_rfl) (of_decide_eq_true (by kernel_rfl)) h1 hg (fun x hx => hlt x (by simp [hx]))) (trodAll_mk0))
  · exact rfl

theorem over : Rows.wheelTurnsRow.holds Try.pinned (OpenSpec.ofChange Rows.wheelTurnsSpec) :=
  OpenClaim.holds_of_wide 9 Try.f9 rfl rfl rfl rfl rfl rfl rfl ⟨rfl, rfl, rfl, rfl, rfl⟩ rfl rfl rfl rfl rfl (by kernel_rfl) Try.func9 (by kernel_rfl)
    (of_decide_eq_true (by kernel_rfl)) (by unfold Func.isWrapper; first | (rw [if_pos (by decide +kernel)]; kernel_rfl) | (rw [if_neg (by decide +kernel)]; exact ⟨rfl, rfl⟩))
    (fun os started H enc _ => lifted os started H enc)

theorem proved : Rows.WheelTurnsSaid := over
#print axioms proved
end Go.Proofs.Ytbmhjojlbmbpkaa.wturns
