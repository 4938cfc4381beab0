/- WheelLaps: however it is told the time, in however many steps, the hand tells each second once, in order. No condition. -/
import Derived.Test.YtbmhjojlbmbpkaaWheel3
import Derived.Test.YtbmhjojlbmbpkaaInts
namespace Go.Proofs.Ytbmhjojlbmbpkaa.wlaps
open Go.ChangeShapes Go.WideShapes Go.ChangeAt Go.RowKit
open Go.Proofs.Ytbmhjojlbmbpkaa.dk Go.Proofs.Ytbmhjojlbmbpkaa.wh

set_option maxRecDepth 100000 in
set_option maxHeartbeats 8000000 in
theorem walk (W : World) (c : Int) (hwf : (Lit.int .u16 c).wf = true) (v : Value) (l : List Int) (r : RowsAt (IntR .u8) 1 W v l) :
    Calls Try.prog 4 #[.int .u16 c, v] W fun e W' => e = .returned (.bool true) ∧ Calm W W' := by
  obtain ⟨a, cap, rfl, hml, hel⟩ := r.nums
  have Hel := box hel
  have hc : 0 ≤ c ∧ c ≤ 65535 := by unfold Lit.wf at hwf; simp [IntKind.min, IntKind.max, IntKind.bits, IntKind.signed] at hwf; omega
  clear hwf hel r
  obtain ⟨hc0, hc1⟩ := hc
  unfold maxLen at hml
  have hcw : IntKind.i64.wrap c = c := IntWalk.i64_in _ (by omega)
  go_enter Try.func4, Try.ntmps4
  go_wp2_with fail
  refine (awake_any _).mono ?_
  rintro e w1 ⟨rfl, hca⟩
  have O1 := box ((Owns.refl W).calm' hca)
  clear hca
  by_cases h60 : 60 < l.length
  · go_wp2_with fail
    go_ret
    exact ⟨rfl, O1.out.calm⟩
  · go_wp2_with fail
    refine (New_ok _ 1000).mono ?_
    rintro e w2 ⟨p, F, rfl, h2, hc2, hF2⟩
    have H2 := box h2
    have O2 := box (O1.out.new hc2 hF2)
    clear h2 hc2 hF2
    go_wp2_with fail
    refine (New_1000 c _ H2.out ⟨hc0, by omega⟩).mono ?_
    rintro e w3 ⟨q, b, F3, rfl, h3, hs3, hq, hq3, hF3⟩
    have O3 := box (O2.out.step hs3)
    have Q3 := box hq
    have Hq := box (Nat.le_trans O2.out.calm.size hq3)
    clear h3 hs3 hq hq3 hF3
    go_wp2_with fail
    go_loopw [7, 8, 34] (fun now next i wr => ∃ (k : Nat) (t : Int), k ≤ l.length ∧ c ≤ t ∧ t ≤ c + 200 * k ∧ now = .int .i64 t ∧ next = .int .i64 (t + 1) ∧ i = .int .i64 k ∧ WheelAt wr q p t ∧ Calm W wr) (fun _ _ i _ => l.length - (intOf i).toNat)
    case atStart => exact ⟨0, c, Nat.zero_le _, Int.le_refl _, by omega, rfl, rfl, rfl, Q3.out, O3.out.calm⟩
    case round =>
      clear Q3 O3 H2 O2
      obtain ⟨k, t, hk, ht0, ht1, rfl, rfl, rfl, hq, hC⟩ := hrel
      have HQ := box hq
      have HC := box hC
      clear hq hC
      obtain ⟨wo, hwo⟩ : ∃ wo : World, wo = wr := ⟨_, rfl⟩
      subst hwo
      by_cases hlt : k < l.length
      · obtain ⟨lb, loff, rfl, hlb, hcell, hx0, hx1⟩ := Hel.out k hlt
        have hcell' := (HC.out.cell (p := ⟨lb, loff + k, none⟩) hlb).trans hcell
        have hlbo := Nat.lt_of_lt_of_le hlb HC.out.size
        obtain ⟨x, hx⟩ : ∃ x, l[k] = x := ⟨_, rfl⟩
        rw [hx] at hcell' hx0 hx1
        clear hx hcell
        have hx0' : 0 ≤ x := hx0
        have hx1' : x ≤ 255 := hx1
        clear hx0 hx1
        obtain ⟨x, rfl⟩ : ∃ y : Nat, x = y := ⟨x.toNat, by omega⟩
        have hs2 : x % 200 < 200 := Nat.mod_lt _ (by decide)
        have htm : Int.tmod (x : Int) 200 = ((x % 200 : Nat) : Int) := rfl
        have q1 : IntKind.i64.wrap (t + ((x % 200 : Nat) : Int)) = t + ((x % 200 : Nat) : Int) := IntWalk.i64_in _ (by omega)
        have hm0 : 0 ≤ (x : Int) % 200 := by omega
        have hm1 : (x : Int) % 200 < 200 := by omega
        go_wp2_with fail
        go_loopw [8] (fun next wr => ∃ t2 : Int, t ≤ t2 ∧ t2 ≤ t + (x : Int) % 200 ∧ next = .int .i64 (t2 + 1) ∧ WheelAt wr q p t2 ∧ Calm W wr) (fun next _ => (t + 201 - intOf next).toNat)
        case atStart => exact ⟨t, Int.le_refl _, by omega, rfl, HQ.out, HC.out⟩
        case round =>
          obtain ⟨t2, h20, h21, rfl, hq2, hC2⟩ := hrel
          have HQ2 := box hq2
          have HC2 := box hC2
          clear hq2 hC2
          by_cases hgo : t2 < t + (x : Int) % 200
          · go_wp2_with fail
            refine (Turn_any q p t2 (t + (x : Int) % 200) _ HQ2.out ⟨by omega, by omega⟩).mono ?_
            rw [turned_goes hgo]
            rintro e w5 ⟨rfl, hq5, hk5⟩
            have Q5 := box hq5
            have C5 := box (Below.trans HC2.out (hk5.below HC2.out.size (fun y e => by have := Hq.out; omega)))
            clear hq5 hk5
            go_wp2_with fail
            go_roundw
            case rel => exact ⟨t2 + 1, by omega, by omega, rfl, Q5.out, C5.out⟩
            case measure => simp [intOf]; omega
          · obtain rfl : t2 = t + (x : Int) % 200 := by omega
            go_wp2_with fail
            refine (Turn_any q p _ (t + (x : Int) % 200) _ HQ2.out ⟨by omega, by omega⟩).mono ?_
            rw [turned_stays (Int.le_refl _)]
            rintro e w5 ⟨rfl, hq5, hk5⟩
            have Q5 := box hq5
            have C5 := box (Below.trans HC2.out (hk5.below HC2.out.size (fun y e => by have := Hq.out; omega)))
            clear hq5 hk5
            go_wp2_with fail
            refine (Ahead_any q p _ (t + (x : Int) % 200) _ Q5.out ⟨by omega, by omega⟩ ⟨by omega, by omega⟩).mono ?_
            rw [if_pos (Int.le_refl _)]
            rintro e w6 ⟨rfl, rfl⟩
            go_wp2_with fail
            refine (Hand_any q p _ _ Q5.out).mono ?_
            rintro e w6 ⟨rfl, rfl⟩
            go_wp2_with fail
            go_roundw
            case rel => exact ⟨k + 1, t + (x : Int) % 200, by omega, by omega, by omega, rfl, rfl, by go_num, Q5.out, C5.out⟩
            case measure => simp [intOf]; omega
      · obtain rfl : k = l.length := by omega
        go_wp2_with fail
        go_ret
        exact ⟨rfl, HC.out⟩

theorem own : ownKnob Try.prog.godebug = none := by kernel_rfl
theorem laidOut : laidOutB Try.prog = true := by kernel_rfl
set_option maxRecDepth 100000 in
set_option linter.unusedVariables false in
theorem lifted (os : Os) (started : os.Started) (H : Type) (enc : TypeId × Value → H) :
    ReturnsInHanded {} Try.checked os 4 .any (Rows.wheelLapsSpec.pre6 enc Try.prog Try.f4 Rows.wheelLapsRow.domain false) (Rows.wheelLapsSpec.post enc Try.prog Try.f4 false true false false) := by
  refine returnsInHanded_of_change_sized (C := Try.checked) own started (by kernel_rfl) Try.func4
    (ChangeSpec.witness6 (enc := enc) (C := Try.checked) false ⟨#[], #[.int .u16 0, .slice none 0 0], []⟩ 8 (by kernel_rfl) (by kernel_rfl) (by kernel_rfl) (by kernel_rfl)) ?_
  intro W base args ds gs before hval0 hW hcnd hsz0 _
  have hsz : (DataW.weightsEach Try.prog (Try.f4.params.toList ++ []) (ds ++ gs)).all (· ≤ reachBytes) = true := hsz0
  clear hsz0
  have hval : ∀ (j : Nat) t v, Try.f4.params[j]? = some t → args[j]? = some v → Value.okWide Try.prog W .any base t v := hval0
  have hW' := hW
  obtain ⟨p, q, hA0, hV, rfl, hfz, hnd⟩ := hW
  have hA : DataW.TrodAll enc Try.prog W 0 (fun _ => true) true Try.f4.params.toList args.toList ds p := hA0
  rw [Try.params4] at hA hval hsz
  obtain ⟨v0, vs0, d0, ds0, p0, q0, hargs, rfl, rfl, h0, r0'⟩ := trodAll_cons hA
  obtain ⟨v1, vs1, d1, ds1, p1, q1, rfl, rfl, rfl, h1, r1'⟩ := trodAll_cons r0'
  obtain ⟨rfl, rfl, rfl⟩ := trodAll_nil r1'
  obtain rfl : args = #[v0, v1] := by cases args; simp_all
  obtain ⟨rfl, rfl⟩ := trodVars_none hV
  clear hA0 hval0
  have wt0 := fun n hn => (by simpa using List.all_eq_true.1 hsz n (DataW.weights_mem_each (j := 0) rfl rfl n hn) : n ≤ reachBytes)
  have wt1 := fun n hn => (by simpa using List.all_eq_true.1 hsz n (DataW.weights_mem_each (j := 1) rfl rfl n hn) : n ≤ reachBytes)
  have hlt : ∀ x ∈ p0 ++ (p1 ++ []), x.block < W.heap.size := fun x hx => by have := hW'.lt x (by simpa using hx); simpa using this
  obtain ⟨a0, e0, _, _, w0⟩ := open_int Try.underlying42 (hval 0 42 v0 rfl rfl) h0
  subst e0
  obtain ⟨l1, r1⟩ := slice_arg Try.underlying43 (hval 1 43 v1 rfl rfl) ((opens_slice (c := 1) Try.underlying43 (by kernel_rfl) (by decide) (opens_int Try.underlying5)).arg h1)
  refine (walk W a0 w0 v1 l1 r1).mono fun e W' ⟨he, hg⟩ => ?_
  subst he
  refine ⟨_, rfl, _, _, _, [] ++ [], p0 ++ (p1 ++ []), [], hW', ?_, ?_, ?_, hg.frame _, fun h => by cases h⟩
  · exact trodAll_mk1 (shut_bool Try.underlying4 true)
  · exact trodAll_cons_mk (Below.trod laidOut (by kernel_rfl) (of_decide_eq_true (by kernel_rfl)) h0 hg (fun x hx => hlt x (by simp [hx]))) (trodAll_cons_mk (Below.trod laidOut (by kernel_rfl) (of_decide_eq_true (by kernel_rfl)) h1 hg (fun x hx => hlt x (by simp [hx]))) (trodAll_mk0))
  · exact rfl

theorem over : Rows.wheelLapsRow.holds Try.pinned (OpenSpec.ofChange Rows.wheelLapsSpec) :=
  OpenClaim.holds_of_wide 4 Try.f4 rfl rfl rfl rfl rfl rfl rfl ⟨rfl, rfl, rfl, rfl, rfl⟩ rfl rfl rfl rfl rfl (by kernel_rfl) Try.func4 (by kernel_rfl)
    (of_decide_eq_true (by kernel_rfl)) (by unfold Func.isWrapper; first | (rw [if_pos (by decide +kernel)]; kernel_rfl) | (rw [if_neg (by decide +kernel)]; exact ⟨rfl, rfl⟩))
    (fun os started H enc _ => lifted os started H enc)

theorem proved : Rows.WheelLapsSaid := over
#print axioms proved
end Go.Proofs.Ytbmhjojlbmbpkaa.wlaps
