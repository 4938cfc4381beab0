/- TlogFar: a record that is put, however far off it is due, goes by as often as the wheel turns ahead of that: it is put again just so often. No condition. -/
import Derived.Test.YtccbfekajbnehaaRows
import Derived.WalkKit
import Derived.ProofKit
import Derived.OpenShut
import Derived.Handy
import Derived.Deep.LoopGhost
import Derived.Lib.Hide
import Derived.Lib.Strings
import Derived.SizedLaws
import Derived.Maps.Own
import Derived.Maps.OwnOps
import Derived.Maps.OwnSet
import Derived.Maps.RangeWalk
import Derived.Deep.QuietTactic
import Derived.BigQuiet
import Derived.Deep.RegionHeld3
import Derived.Lib.ConvBytes
import Derived.Lib.AppendZeros
import Derived.Lib.AppendZerosOnto
import Derived.Lib.LazyBuf
import Derived.Shelf.Abstract
import Derived.LaidEql
import Derived.Lib.SliceRun
import Derived.StillTailTactics
import Derived.Deep.Slices
import Derived.Shelf.SlIter.Nil
import Derived.Ground.GgzProg
import Derived.Shelf.SortM.Plain
import Derived.Shelf.SortM.SortNone
import Derived.Ground.SlgmProg
import Derived.Shelf.SlicesE.DeleteFunc
import Derived.Ground.SlgfProg
import Derived.Test.YtccbfekajbnehaaProg
import Derived.Shelf.Strings.Builder1
import Derived.Shelf.Small.Bits
import Derived.Shelf.Strings.BuilderF
import Derived.Shelf.Strings.BuilderK
import Derived.Shelf.Strconv.Itoa0
import Derived.Shelf.Sort.Plain
import Derived.Shelf.Strings.Prefix
import Derived.Shelf.Strings.BuilderCap
import Derived.Shelf.Slices.In.SortNone
import Derived.Shelf.SlicesE.IndexFunc
import Derived.Laws.MakeOwn
import Derived.Lib.Builder
import Derived.Lib.AppendStr
import Derived.Shelf.SlicesQ.Reverse
import Derived.Ground.SlgnProg
import Derived.OwnWalk
import Derived.Test.YtccbfekajbnehaaPk18
namespace Go.Proofs.Ytccbfekajbnehaa.tfar
open Go.ChangeShapes Go.WideShapes Go.ChangeAt Go.RowKit
open Go.Proofs.Ytccbfekajbnehaa.dk Go.Proofs.Ytccbfekajbnehaa.tl Go.Proofs.Ytccbfekajbnehaa.wh

set_option maxRecDepth 100000 in
set_option maxHeartbeats 60000000 in
theorem walk (W : World) (hd0 : Int) (hwf : (Lit.int .u8 hd0).wf = true) (fr0 : Int) (fwf : (Lit.int .u16 fr0).wf = true) :
    Calls Try.prog 3 #[.int .u8 hd0, .int .u16 fr0] W fun e W' => e = .returned (.bool true) ∧ Calm W W' := by
  have hh : 0 ≤ hd0 ∧ hd0 ≤ 255 := by unfold Lit.wf at hwf; simp [IntKind.min, IntKind.max, IntKind.bits, IntKind.signed] at hwf; omega
  have hf : 0 ≤ fr0 ∧ fr0 ≤ 65535 := by unfold Lit.wf at fwf; simp [IntKind.min, IntKind.max, IntKind.bits, IntKind.signed] at fwf; omega
  clear hwf fwf
  obtain ⟨h, rfl⟩ : ∃ h : Nat, hd0 = h := ⟨hd0.toNat, by omega⟩
  obtain ⟨f, rfl⟩ : ∃ f : Nat, fr0 = f := ⟨fr0.toNat, by omega⟩
  have hh2 : h ≤ 255 := by omega
  have hf2 : f ≤ 65535 := by omega
  clear hh hf
  have hmod : Int.tmod (f : Int) 400 = ((f % 400 : Nat) : Int) := by rw [Int.tmod_eq_emod_of_nonneg (by omega)]; omega
  obtain ⟨y, hy⟩ : ∃ y, f % 400 = y := ⟨_, rfl⟩
  have hy4 : y < 400 := by omega
  rw [hy] at hmod
  clear hy
  go_enter Try.func3, Try.ntmps3
  go_wp2_with fail
  refine (tl.awake_any _).mono ?_
  rintro e w1 ⟨rfl, hca⟩
  have O1 := box ((Owns.refl W).calm' hca)
  clear hca
  go_wp2_with fail
  refine (New_ok _ 1048576).mono ?_
  rintro e w2 ⟨p, F, rfl, h2, hc2, hF2⟩
  have H2 := box h2
  have O2 := box (O1.out.new hc2 hF2)
  clear h2 hc2 hF2 hmod
  obtain ⟨due, hdue⟩ : ∃ due, h + 1 + y = due := ⟨_, rfl⟩
  have hdi : (h : Int) + 1 + (y : Int) = (due : Int) := by omega
  have hd1 : h < due := by omega
  have hd2 : due ≤ 700 := by omega
  clear hdue hy4
  rw [hdi]
  clear hdi
  go_wp2_with fail
  refine (FarS.new (w0 := W) H2.out (by omega) O2.out).mono ?_
  rintro e w3 ⟨q, x, D, F3, rfl, hlog, hcap, hO⟩
  have hput := box (FarS.put hlog hcap hO hd1 (by omega))
  clear hlog hcap hO H2 O2 O1
  go_wp2_with fail
  refine hput.out.mono ?_
  rintro e w4 ⟨rfl, h4⟩
  have H4 := box h4
  clear h4 hput
  have hb0 : (h : Int) + 1 ≤ 1000 := by omega
  go_wp2_with fail
  go_loopw [8] (fun nv wr => ∃ k : Nat, h ≤ k ∧ k ≤ due ∧ nv = .int .i64 ((k : Int) + 1) ∧ FarS h due p q x k W wr) (fun nv _ => (due + 1 - intOf nv).toNat)
  case atStart => exact ⟨h, Nat.le_refl _, by omega, rfl, H4.out⟩
  case round =>
    clear H4 hb0
    obtain ⟨k, hk, hkd, rfl, hS⟩ := hrel
    have HS := box hS
    clear hS
    by_cases hlt : k < due
    · have hnext := box (HS.out.next hk hlt (by omega))
      have hct := farC_le (h := h) (due := due) (k := k + 1)
      go_wp2_with fail
      refine hnext.out.mono ?_
      rintro e w5 ⟨gv, L, rfl, hm5, hL5, h5⟩
      have HS5 := box h5
      have HG5 := box hm5
      have HL5 := box hL5
      have hlen := congrArg List.length hL5
      rw [List.length_map] at hlen
      obtain ⟨ga, gcap, hgv, _⟩ := hm5
      subst hgv
      clear h5 hL5 hnext HS
      by_cases hend : k + 1 = due
      · rw [if_pos hend, List.length_singleton] at hlen
        rw [hlen]
        have hbe : ((k : Int) + 1 == (due : Int)) = true := beq_iff_eq.2 (by omega)
        clear hlen
        go_wp2_with fail
        go_loopw [12, 13] (fun pv kv wr => ∃ (j c : Nat) (z : Int), 1 ≤ j ∧ kv = .int .i64 z ∧ pv = .int .i64 (c : Int) ∧ Box (c = (j - 1) - (due - 1 - (k + 1)) / 16 ∧ z = (due : Int) - 16 * j ∧ (j = 1 ∨ h + 16 * (j - 1) < due)) ∧ wr = w5) (fun _ kv _ => (intOf kv - h).toNat)
        case atStart => exact ⟨1, 0, (due : Int) - 16, Nat.le_refl _, rfl, rfl, box ⟨by omega, by omega, .inl rfl⟩, rfl⟩
        case round =>
          obtain ⟨j, c, z, hj, rfl, rfl, HB, rfl⟩ := hrel
          have hz0 : -1000 ≤ z ∧ z ≤ 700 := by have := HB.out; omega
          have hcb : c ≤ 700 := by have := HB.out; omega
          by_cases hz : (h : Int) < z
          · by_cases hzn : z ≤ (k : Int) + 1
            · go_wp2_with fail
              go_roundw
              case rel => exact ⟨j + 1, c + 1, z - 16, by omega, rfl, by go_num, box (by have := HB.out; omega), trivial⟩
              case measure => simp [intOf]; omega
            · go_wp2_with fail
              go_roundw
              case rel => exact ⟨j + 1, c, z - 16, by omega, rfl, rfl, box (by have := HB.out; omega), trivial⟩
              case measure => simp [intOf]; omega
          · have hc : farC h due (k + 1) = c := by unfold farC; have := HB.out; omega
            have hmany := box HS5.out.many
            have hLc := HL5.out
            rw [hc] at hmany hLc
            have hcast : ((1 + c : Nat) : Int) = 1 + (c : Int) := by omega
            rw [hcast] at hmany
            clear hc hcast
            rw [if_pos hend] at hLc
            obtain ⟨⟨mr, ma⟩, hLm, hrc⟩ := List.map_eq_singleton_iff.1 hLc
            have hrc : mr = ⟨due, 5, 1 + c⟩ := hrc
            clear hLc
            subst hLm
            subst hrc
            obtain ⟨_, _, he, hcells⟩ := HG5.out
            cases he
            obtain ⟨gb, rfl, hgl, q0, q1, _, q3⟩ := hcells 0 (Nat.lt_succ_self 0)
            simp only [List.getElem_cons_zero, Nat.zero_mul, Nat.zero_add] at q0 q1 q3
            rw [show ((1 + c : Nat) : Int) = 1 + (c : Int) by omega] at q3
            clear hcells HL5
            go_wp2_with fail
            refine hmany.out.mono ?_
            rintro e w6 ⟨rfl, rfl⟩
            go_wp2_with fail
            go_roundw
            case rel => exact ⟨k + 1, by omega, by omega, by go_num, HS5.out⟩
            case measure => simp [intOf]; omega
      · rw [if_neg hend, List.length_nil] at hlen
        rw [hlen]
        have hbe : ((k : Int) + 1 == (due : Int)) = false := beq_eq_false_iff_ne.2 (by omega)
        clear hlen
        go_wp2_with fail
        go_loopw [12, 13] (fun pv kv wr => ∃ (j c : Nat) (z : Int), 1 ≤ j ∧ kv = .int .i64 z ∧ pv = .int .i64 (c : Int) ∧ Box (c = (j - 1) - (due - 1 - (k + 1)) / 16 ∧ z = (due : Int) - 16 * j ∧ (j = 1 ∨ h + 16 * (j - 1) < due)) ∧ wr = w5) (fun _ kv _ => (intOf kv - h).toNat)
        case atStart => exact ⟨1, 0, (due : Int) - 16, Nat.le_refl _, rfl, rfl, box ⟨by omega, by omega, .inl rfl⟩, rfl⟩
        case round =>
          obtain ⟨j, c, z, hj, rfl, rfl, HB, rfl⟩ := hrel
          have hz0 : -1000 ≤ z ∧ z ≤ 700 := by have := HB.out; omega
          have hcb : c ≤ 700 := by have := HB.out; omega
          by_cases hz : (h : Int) < z
          · by_cases hzn : z ≤ (k : Int) + 1
            · go_wp2_with fail
              go_roundw
              case rel => exact ⟨j + 1, c + 1, z - 16, by omega, rfl, by go_num, box (by have := HB.out; omega), trivial⟩
              case measure => simp [intOf]; omega
            · go_wp2_with fail
              go_roundw
              case rel => exact ⟨j + 1, c, z - 16, by omega, rfl, rfl, box (by have := HB.out; omega), trivial⟩
              case measure => simp [intOf]; omega
          · have hc : farC h due (k + 1) = c := by unfold farC; have := HB.out; omega
            have hmany := box HS5.out.many
            have hLc := HL5.out
            rw [hc] at hmany hLc
            have hcast : ((1 + c : Nat) : Int) = 1 + (c : Int) := by omega
            rw [hcast] at hmany
            clear hc hcast
            clear hLc
            go_wp2_with fail
            refine hmany.out.mono ?_
            rintro e w6 ⟨rfl, rfl⟩
            go_wp2_with fail
            go_roundw
            case rel => exact ⟨k + 1, by omega, by omega, by go_num, HS5.out⟩
            case measure => simp [intOf]; omega
    · obtain rfl : k = due := by omega
      go_wp2_with fail
      go_ret
      exact ⟨rfl, HS.out.owns⟩

theorem own : ownKnob Try.prog.godebug = none := by kernel_rfl
theorem laidOut : laidOutB Try.prog = true := by kernel_rfl
set_option maxRecDepth 100000 in
set_option linter.unusedVariables false in
theorem lifted (os : Os) (started : os.Started) (H : Type) (enc : TypeId × Value → H) :
    ReturnsInHanded {} Try.checked os 3 .any (Rows.tlogFarSpec.pre6 enc Try.prog Try.f3 Rows.tlogFarRow.domain false) (Rows.tlogFarSpec.post enc Try.prog Try.f3 false true false false) := by
  refine returnsInHanded_of_change_sized (C := Try.checked) own started (by kernel_rfl) Try.func3
    (ChangeSpec.witness6 (enc := enc) (C := Try.checked) false ⟨#[], #[.int .u8 0, .int .u16 0], []⟩ 8 (by kernel_rfl) (by kernel_rfl) (by kernel_rfl) (by kernel_rfl)) ?_
  intro W base args ds gs before hval0 hW hcnd hsz0 _
  have hsz : (DataW.weightsEach Try.prog (Try.f3.params.toList ++ []) (ds ++ gs)).all (· ≤ reachBytes) = true := hsz0
  clear hsz0
  have hval : ∀ (j : Nat) t v, Try.f3.params[j]? = some t → args[j]? = some v → Value.okWide Try.prog W .any base t v := hval0
  have hW' := hW
  obtain ⟨p, q, hA0, hV, rfl, hfz, hnd⟩ := hW
  have hA : DataW.TrodAll enc Try.prog W 0 (fun _ => true) true Try.f3.params.toList args.toList ds p := hA0
  rw [Try.params3] at hA hval hsz
  obtain ⟨v0, vs0, d0, ds0, p0, q0, hargs, rfl, rfl, h0, r0'⟩ := trodAll_cons hA
  obtain ⟨v1, vs1, d1, ds1, p1, q1, rfl, rfl, rfl, h1, r1'⟩ := trodAll_cons r0'
  obtain ⟨rfl, rfl, rfl⟩ := trodAll_nil r1'
  obtain rfl : args = #[v0, v1] := by cases args; simp_all
  obtain ⟨rfl, rfl⟩ := trodVars_none hV
  clear hA0 hval0
  have wt0 := fun n hn => (by simpa using List.all_eq_true.1 hsz n (DataW.weights_mem_each (j := 0) rfl rfl n hn) : n ≤ reachBytes)
  have wt1 := fun n hn => (by simpa using List.all_eq_true.1 hsz n (DataW.weights_mem_each (j := 1) rfl rfl n hn) : n ≤ reachBytes)
  have hlt : ∀ x ∈ p0 ++ (p1 ++ []), x.block < W.heap.size := fun x hx => by have := hW'.lt x (by simpa using hx); simpa using this
  obtain ⟨a0, e0, _, _, w0⟩ := open_int Try.underlying5 (hval 0 5 v0 rfl rfl) h0
  subst e0
  obtain ⟨a1, e1, _, _, w1⟩ := open_int Try.underlying22 (hval 1 22 v1 rfl rfl) h1
  subst e1
  refine (walk W a0 w0 a1 w1).mono fun e W' ⟨he, hg⟩ => ?_
  subst he
  refine ⟨_, rfl, _, _, _, [] ++ [], p0 ++ (p1 ++ []), [], hW', ?_, ?_, ?_, hg.frame _, fun h => by cases h⟩
  · exact trodAll_mk1 (shut_bool Try.underlying4 true)
  · exact trodAll_cons_mk (Below.trod laidOut (by kernel_rfl) (of_decide_eq_true (by kernel_rfl)) h0 hg (fun x hx => hlt x (by simp [hx]))) (trodAll_cons_mk (Below.trod laidOut (by kernel_rfl) (of_decide_eq_true (by kernel_rfl)) h1 hg (fun x hx => hlt x (by simp [hx]))) (trodAll_mk0))
  · exact rfl

theorem over : Rows.tlogFarRow.holds Try.pinned (OpenSpec.ofChange Rows.tlogFarSpec) :=
  OpenClaim.holds_of_wide 3 Try.f3 rfl rfl rfl rfl rfl rfl rfl ⟨rfl, rfl, rfl, rfl, rfl⟩ rfl rfl rfl rfl rfl (by kernel_rfl) Try.func3 (by kernel_rfl)
    (of_decide_eq_true (by kernel_rfl)) (by unfold Func.isWrapper; first | (rw [if_pos (by decide +kernel)]; kernel_rfl) | (rw [if_neg (by decide +kernel)]; exact ⟨rfl, rfl⟩))
    (fun os started H enc _ => lifted os started H enc)

theorem proved : Rows.TlogFarSaid := over
#print axioms proved
end Go.Proofs.Ytccbfekajbnehaa.tfar
