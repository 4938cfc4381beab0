/- KeyxChains: each entry stands in just one bucket's chain; chains fall: for all lists of keys (those of more than 100, or with a text of more than 100 bytes, are let by). -/
import Derived.Test.YtjfiglkclpddaaaRows
import Derived.WalkKit
import Derived.ProofKit
import Derived.OpenShut
import Derived.Handy
import Derived.Deep.LoopGhost
import Derived.Lib.Hide
import Derived.Lib.Strings
import Derived.SizedLaws
import Derived.Maps.Own
import Derived.Maps.OwnOps
import Derived.Maps.OwnSet
import Derived.Maps.RangeWalk
import Derived.Deep.QuietTactic
import Derived.BigQuiet
import Derived.Deep.RegionHeld3
import Derived.Lib.ConvBytes
import Derived.Lib.AppendZeros
import Derived.Lib.AppendZerosOnto
import Derived.Lib.LazyBuf
import Derived.Shelf.Abstract
import Derived.LaidEql
import Derived.Lib.SliceRun
import Derived.StillTailTactics
import Derived.Deep.Slices
import Derived.Laws.MakeOwn
import Derived.Shelf.Strings.Builder1
import Derived.Shelf.Small.Bits
import Derived.Shelf.Small.Wraps
import Derived.Shelf.Strings.BuilderF
import Derived.Shelf.Strings.BuilderK
import Derived.Shelf.Strconv.Itoa0
import Derived.Shelf.Sort.Plain
import Derived.Shelf.GgClosure.StringsIndexFunc
import Derived.Ground.GgwProg
import Derived.Shelf.GgClosure.StringsIndexFuncTop
import Derived.Shelf.GgClosure.StringsRunes
import Derived.Shelf.Strings.Prefix
import Derived.Shelf.Strings.BuilderCap
import Derived.Shelf.Slices.In.SortNone
import Derived.Ground.SlgfProg
import Derived.Shelf.SlicesE.IndexFunc
import Derived.Shelf.SlicesE.DeleteFunc
import Derived.Test.YtjfiglkclpddaaaProg
import Derived.Lib.Builder
import Derived.Lib.AppendStr
import Derived.Shelf.SlIter.Nil
import Derived.Ground.GgzProg
import Derived.Shelf.SortM.Plain
import Derived.Shelf.SortM.SortNone
import Derived.Ground.SlgmProg
import Derived.Lib.SmallJoins
import Derived.Test.YtjfiglkclpddaaaPk17
namespace Go.Proofs.Ytjfiglkclpddaaa.kchains
open Go.ChangeShapes Go.WideShapes Go.ChangeAt Go.RowKit
open Go.Proofs.Ytjfiglkclpddaaa.dk Go.Proofs.Ytjfiglkclpddaaa.nm Go.Proofs.Ytjfiglkclpddaaa.kx

set_option maxRecDepth 100000 in
set_option maxHeartbeats 8000000 in
theorem walk (W : World) (v : Value) (l : List AddS) (r : RowsAt AddR 4 W v l) :
    Calls Try.prog 5 #[v] W fun e W' => e = .returned (.bool true) ∧ Calm W W' := by
  obtain ⟨a, cap, rfl, hml, hel⟩ := kx.RowsAt.adds r
  have Hel := box hel
  clear hel r
  unfold maxLen at hml
  go_enter Try.func5, Try.ntmps5
  go_wp2_with fail
  refine (kx.awake_any _).mono ?_
  rintro e w0 ⟨rfl, hca⟩
  have Cm := box hca
  clear hca
  by_cases hx1 : 100 < l.length
  · go_wp2_with (first | go_quiet (fail) | fail)
    go_ret
    exact ⟨rfl, Cm.out⟩
  · go_wp2_with (first | go_quiet (fail) | fail)
    refine (New_ok _ 1048576).mono ?_
    rintro e w2 ⟨p, F, rfl, h2, hc2, hF2⟩
    have H2 := box h2
    have O2 := box ((Owns.refl w0).new hc2 hF2)
    have hl1 : l.length ≤ 100 := by omega
    clear h2 hc2 hF2
    go_wp2_with fail
    refine (New_step w0 _ 1048576 (by decide) p F H2.out O2.out).mono ?_
    rintro e w3 ⟨x, rfl, hS3⟩
    have S3 := box hS3
    clear hS3
    go_wp2_with fail
    go_loopw [26] (fun i wr => ∃ (k : Nat) (s : List Ln × List Nat), k ≤ l.length ∧ i = .int .i64 k ∧ KxS x p k w0 wr s) (fun i _ => l.length - (intOf i).toNat)
    case atStart => exact ⟨0, _, Nat.zero_le _, rfl, S3.out⟩
    case round =>
      clear S3 H2 O2
      obtain ⟨k, s, hk, rfl, hS⟩ := hrel
      have HS := box hS
      clear hS
      obtain ⟨wo, hwo⟩ : ∃ wo : World, wo = wr := ⟨_, rfl⟩
      subst hwo
      by_cases hlt : k < l.length
      · obtain ⟨lb, loff, rfl, hlb, hc0, hc1, hc2, hc3, z0, z1, z2, z3⟩ := Hel.out k hlt
        have Cw := box (Cm.out.trans HS.out.owns)
        have d0 := (Cw.out.cell (p := ⟨lb, loff + k * 4, none⟩) hlb).trans hc0
        have d1 := (Cw.out.cell (p := ⟨lb, loff + k * 4 + 1, none⟩) hlb).trans hc1
        have d2 := (Cw.out.cell (p := ⟨lb, loff + k * 4 + 2, none⟩) hlb).trans hc2
        have d3 := (Cw.out.cell (p := ⟨lb, loff + k * 4 + 3, none⟩) hlb).trans hc3
        have hlbo := Nat.lt_of_lt_of_le hlb Cw.out.size
        obtain ⟨⟨at_, ak, ap, ab⟩, ha⟩ : ∃ z, l[k] = z := ⟨_, rfl⟩
        rw [ha] at d0 d1 d2 d3
        clear ha hc0 hc1 hc2 hc3 z0 z1 z2 z3
        simp only at d0 d1 d2 d3
        have Ha := box ((Calm.refl wo).alloc (.cells #[.string at_, .string ak, .int .i64 ap, .int .i64 ab] 39))
        have HSa := box (HS.out.calm Ha.out)
        by_cases hs1 : 100 < ak.size
        · go_wp2_with fail
          go_ret
          exact ⟨rfl, Cw.out.trans Ha.out⟩
        by_cases hs2 : 100 < at_.size
        · go_wp2_with fail
          go_ret
          exact ⟨rfl, Cw.out.trans Ha.out⟩
        · go_wp2_with fail
          refine (Add_step x p k w0 _ s ⟨at_, ak, ap, ab⟩ HSa.out (by omega) (by simp only; omega) (by simp only; omega)).mono ?_
          rintro e w6 ⟨rfl, hS6⟩
          have HS6 := box hS6
          clear hS6
          go_wp2_with fail
          go_roundw
          case rel => exact ⟨k + 1, _, by omega, by go_num, HS6.out⟩
          case measure => simp [intOf]; omega
      · obtain rfl : k = l.length := by omega
        have hfew := HS.out.few
        have HM := box (MapIs.made wo (.int .i64))
        have hmm := @run_makeMap Try.prog
        have HC0 := box ((Calm.refl wo).alloc (.map #[] 0))
        go_wp2_with fail
        go_loopw [8] (fun bv wr => ∃ b : Nat, b ≤ 8 ∧ bv = .int .i64 b ∧ Calm wo wr ∧ MapIs wr wo.heap.size (.int .i64) (seenM (allL s.1 s.1.length b))) (fun bv _ => 8 - (intOf bv).toNat)
        case atStart => exact ⟨0, by omega, rfl, HC0.out, HM.out⟩
        case round =>
          clear HM HC0
          obtain ⟨b, hb, rfl, hcal, hmap⟩ := hrel
          have HC := box hcal
          have HM := box hmap
          have HSr := box (HS.out.calm hcal)
          clear hcal hmap
          obtain ⟨wq, hwq⟩ : ∃ wq : World, wq = wr := ⟨_, rfl⟩
          subst hwq
          by_cases hb8 : b < 8
          · obtain ⟨L, hL, hat, hnext⟩ := chain_all s.1 b s.1.length
            have Hat := box hat
            have Hnext := box hnext
            clear hat hnext
            go_wp2_with fail
            refine (HSr.out.len).mono ?_
            rintro e w5 ⟨rfl, rfl⟩
            go_wp2_with fail
            refine (HSr.out.chain' b hb8 L hL).mono ?_
            rintro e w5 ⟨va, rfl, hI, hF, hc5⟩
            obtain ⟨aa, acap, rfl, hLm, _⟩ := id hI
            rw [List.length_map] at hLm
            have HI := box hI
            have HF := box hF
            have Hsz := box (HC.out.size)
            have HC5 := box (HC.out.trans hc5)
            have HM5 := box (HM.out.calm hc5)
            have Hmlt := box (HM.out.lt)
            simp only [List.length_map]
            unfold maxLen at hLm
            clear hI hF hc5 hL
            go_wp2_with fail
            go_loopw [63, 9] (fun i lv wr => ∃ j : Nat, j ≤ L.length ∧ i = .int .i64 j ∧ lv = .int .i64 ((lastAt L s.1.length j : Nat) : Int) ∧ Calm wo wr ∧ MapIs wr wo.heap.size (.int .i64) (seenM (allL s.1 s.1.length b ++ L.take j)) ∧ IntsAt wr (.slice aa (L.map fun (n : Nat) => (n : Int)).length acap) (L.map fun (n : Nat) => (n : Int))) (fun i _ _ => L.length - (intOf i).toNat)
            case atStart => exact ⟨0, by omega, rfl, rfl, HC5.out, by simpa using HM5.out, HI.out⟩
            case round =>
              clear HI HC5 HM5 HC HM
              obtain ⟨j, hj, rfl, rfl, hcal, hmap, hI⟩ := hrel
              have HC := box hcal
              have HM := box hmap
              have HI := box hI
              clear hcal hmap hI
              obtain ⟨wi, hwi⟩ : ∃ wi : World, wi = wr := ⟨_, rfl⟩
              subst hwi
              by_cases hjl : j < L.length
              · obtain ⟨g1, g2, g3, g4, g5, g6⟩ := Hat.out j hjl
                obtain ⟨_, _, he, _, hcells⟩ := id HI.out
                cases he
                obtain ⟨eb, eoff, rfl, helt, hcell⟩ := hcells j (by rw [List.length_map]; exact hjl)
                rw [List.getElem_map] at hcell
                obtain ⟨y, hy⟩ : ∃ y, L[j] = y := ⟨_, rfl⟩
                rw [hy] at g1 g2 g3 g4 g5 g6 hcell
                obtain ⟨z, hz⟩ : ∃ z, lastAt L s.1.length j = z := ⟨_, rfl⟩
                rw [hz] at g3
                rw [hz]
                have hlook := seen_miss HM.out y g5
                obtain ⟨o, hupd, hmap2⟩ := seen_add HM.out y g5
                have HM2 := box hmap2
                have HC2 := box (calm_set HC.out (Nat.le_refl _) o)
                have HI2 := box (ints_keep HI.out HF.out ((Keeps.refl (fun b => b = wo.heap.size) wi).setObj (.inl rfl) o) (fun b e => by have := Hmlt.out; omega))
                have G4 := box g4
                have G6 := box g6
                clear hmap2 hcells g4 g5 g6 hy hz
                go_wp2_with (first | go_quiet (fail) | fail)
                go_roundw
                case rel => exact ⟨j + 1, by omega, by go_num, by rw [G4.out], HC2.out, by rw [G6.out]; exact HM2.out, HI2.out⟩
                case measure => simp [intOf]; omega
              · obtain rfl : j = L.length := by omega
                go_wp2_with fail
                go_roundw
                case rel => exact ⟨b + 1, by omega, by go_num, HC.out, by rw [Hnext.out]; have := HM.out; rw [List.take_length] at this; exact this⟩
                case measure => simp [intOf]; omega
          · obtain rfl : b = 8 := by omega
            have hlen := seen_len HM.out
            go_wp2_with fail
            refine (HSr.out.len).mono ?_
            rintro e w5 ⟨rfl, rfl⟩
            go_wp2_with fail
            go_ret
            exact ⟨ret_bool (by simp), (Cm.out.trans HS.out.owns).trans HC.out⟩

theorem own : ownKnob Try.prog.godebug = none := by kernel_rfl
theorem laidOut : laidOutB Try.prog = true := by kernel_rfl
set_option maxRecDepth 100000 in
set_option linter.unusedVariables false in
theorem lifted (os : Os) (started : os.Started) (H : Type) (enc : TypeId × Value → H) :
    ReturnsInHanded {} Try.checked os 5 .any (Rows.keyxChainsSpec.pre6 enc Try.prog Try.f5 Rows.keyxChainsRow.domain false) (Rows.keyxChainsSpec.post enc Try.prog Try.f5 false true false false) := by
  refine returnsInHanded_of_change_sized (C := Try.checked) own started (by kernel_rfl) Try.func5
    (ChangeSpec.witness6 (enc := enc) (C := Try.checked) false ⟨#[], #[.slice none 0 0], []⟩ 8 (by kernel_rfl) (by kernel_rfl) (by kernel_rfl) (by kernel_rfl)) ?_
  intro W base args ds gs before hval0 hW hcnd hsz0 _
  have hsz : (DataW.weightsEach Try.prog (Try.f5.params.toList ++ []) (ds ++ gs)).all (· ≤ reachBytes) = true := hsz0
  clear hsz0
  have hval : ∀ (j : Nat) t v, Try.f5.params[j]? = some t → args[j]? = some v → Value.okWide Try.prog W .any base t v := hval0
  have hW' := hW
  obtain ⟨p, q, hA0, hV, rfl, hfz, hnd⟩ := hW
  have hA : DataW.TrodAll enc Try.prog W 0 (fun _ => true) true Try.f5.params.toList args.toList ds p := hA0
  rw [Try.params5] at hA hval hsz
  obtain ⟨v0, vs0, d0, ds0, p0, q0, hargs, rfl, rfl, h0, r0'⟩ := trodAll_cons hA
  obtain ⟨rfl, rfl, rfl⟩ := trodAll_nil r0'
  obtain rfl : args = #[v0] := by cases args; simp_all
  obtain ⟨rfl, rfl⟩ := trodVars_none hV
  clear hA0 hval0
  have wt0 := fun n hn => (by simpa using List.all_eq_true.1 hsz n (DataW.weights_mem_each (j := 0) rfl rfl n hn) : n ≤ reachBytes)
  have hlt : ∀ x ∈ p0 ++ [], x.block < W.heap.size := fun x hx => by have := hW'.lt x (by simpa using hx); simpa using this
  obtain ⟨l0, r0⟩ := slice_arg Try.underlying37 (hval 0 37 v0 rfl rfl) ((opens_slice (c := 4) Try.underlying37 (by kernel_rfl) (by decide) (opens_add)).arg h0)
  refine (walk W v0 l0 r0).mono fun e W' ⟨he, hg⟩ => ?_
  subst he
  refine ⟨_, rfl, _, _, _, [] ++ [], p0 ++ [], [], hW', ?_, ?_, ?_, hg.frame _, fun h => by cases h⟩
  · exact trodAll_mk1 (shut_bool Try.underlying4 true)
  · exact trodAll_cons_mk (Below.trod laidOut (by kernel_rfl) (of_decide_eq_true (by kernel_rfl)) h0 hg (fun x hx => hlt x (by simp [hx]))) (trodAll_mk0)
  · exact rfl

theorem over : Rows.keyxChainsRow.holds Try.pinned (OpenSpec.ofChange Rows.keyxChainsSpec) :=
  OpenClaim.holds_of_wide 5 Try.f5 rfl rfl rfl rfl rfl rfl rfl ⟨rfl, rfl, rfl, rfl, rfl⟩ rfl rfl rfl rfl rfl (by kernel_rfl) Try.func5 (by kernel_rfl)
    (of_decide_eq_true (by kernel_rfl)) (by unfold Func.isWrapper; first | (rw [if_pos (by decide +kernel)]; kernel_rfl) | (rw [if_neg (by decide +kernel)]; exact ⟨rfl, rfl⟩))
    (fun os started H enc _ => lifted os started H enc)

theorem proved : Rows.KeyxChainsSaid := over
#print axioms proved
end Go.Proofs.Ytjfiglkclpddaaa.kchains
