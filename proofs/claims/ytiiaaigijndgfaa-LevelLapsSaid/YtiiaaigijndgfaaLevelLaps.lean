/- LevelLaps holds for every input: no condition. -/
import Derived.Test.YtiiaaigijndgfaaRows
import Derived.WalkKit
import Derived.ProofKit
import Derived.OpenShut
import Derived.Handy
namespace Go.Proofs.Ytiiaaigijndgfaa.levelLaps
open Go.ChangeShapes Go.WideShapes Go.ChangeAt Go.RowKit

theorem own : ownKnob Try.prog.godebug = none := by kernel_rfl

theorem slot_any (x : Int) (w : World) (h : 0 ≤ x) (h2 : x ≤ 9000000000) :
    Calls Try.prog 9 #[.int .i64 x] w fun e w' => e = .returned (.int .i64 (x % 16)) ∧ w = w' := by
  go_enter Try.func9, Try.ntmps9
  go_wp2
  go_ret
  exact ⟨rfl, rfl⟩

def laps (x n : Int) : Int := if x ≤ n then 0 else (x - n) / 16
def far (x n : Int) : Bool := decide (laps x n > 0)
theorem laps_le (x n : Int) (h : x ≤ n) : laps x n = 0 := by simp [laps, h]
theorem laps_gt (x n : Int) (h : n < x) : laps x n = (x - n) / 16 := by
  unfold laps; rw [if_neg (by omega)]

theorem laps_any (x n : Int) (w : World) (h : 0 ≤ x) (h2 : x ≤ 9000000000) (g : 0 ≤ n) (g2 : n ≤ 9000000000) :
    Calls Try.prog 10 #[.int .i64 x, .int .i64 n] w fun e w' => e = .returned (.int .i64 (laps x n)) ∧ w = w' := by
  by_cases hx : x ≤ n
  · rw [laps_le x n hx]
    go_enter Try.func10, Try.ntmps10
    go_wp2
    go_ret
    exact ⟨rfl, rfl⟩
  · rw [laps_gt x n (by omega)]
    have hx' : n < x := by omega
    clear hx
    go_enter Try.func10, Try.ntmps10
    go_wp2
    go_ret
    exact ⟨rfl, rfl⟩

theorem far_any (x n : Int) (w : World) (h : 0 ≤ x) (h2 : x ≤ 9000000000) (g : 0 ≤ n) (g2 : n ≤ 9000000000) :
    Calls Try.prog 11 #[.int .i64 x, .int .i64 n] w fun e w' => e = .returned (.bool (far x n)) ∧ w = w' := by
  go_enter Try.func11, Try.ntmps11
  go_wp2_with (go_at_call 10; refine (laps_any _ _ _ h h2 g g2).mono ?_; rintro e w' ⟨rfl, rfl⟩)
  go_ret
  exact ⟨rfl, rfl⟩

theorem delay3 (w : World) :
    Calls Try.prog 30 #[.int .i64 3] w fun e w' => e = .returned (.int .i64 8) ∧ w = w' := by
  go_enter Try.func30, Try.ntmps30
  go_wp2
  go_ret
  exact ⟨rfl, rfl⟩

theorem awake_any (w : World) :
    Calls Try.prog 8 #[] w fun e w' => e = .returned (.bool true) ∧ w = w' := by
  go_enter Try.func8, Try.ntmps8
  go_wp2_with (first | (go_at_call 30; refine (delay3 _).mono ?_; rintro e w' ⟨rfl, rfl⟩) | (go_at_call 9; refine (slot_any _ _ (by omega) (by omega)).mono ?_; rintro e w' ⟨rfl, rfl⟩))
  go_ret
  exact ⟨rfl, rfl⟩

theorem e_slots (x y : Int) (hx : 0 ≤ x) (hy : 0 ≤ y) : ((x % 16) == (y % 16)) = ((x - y).tmod 16 == 0) := by
  rw [Bool.eq_iff_iff, beq_iff_eq, beq_iff_eq, ← Int.dvd_iff_tmod_eq_zero]; omega
theorem e_slots' (x y : Int) (hx : 0 ≤ x) (hy : 0 ≤ y) : ((x % 16) == (y % 16)) = ((x - y) % 16 == 0) := by
  rw [Bool.eq_iff_iff, beq_iff_eq, beq_iff_eq]; omega
theorem e_laps (x n : Int) (h : n < x) (h0 : 0 ≤ n) (h1 : x ≤ 9000000000) : (laps (x + 16) n != wrap64 (laps x n + 1)) = false := by
  rw [laps_gt _ _ h, laps_gt _ _ (by omega), IntWalk.wrap64_in _ (by omega)]
  simp; omega
theorem laps_mono (n x y : Int) (h : x ≤ y) : laps x n ≤ laps y n := by
  simp only [laps]; split <;> split <;> omega

set_option maxHeartbeats 1000000 in
theorem walk0 (a0 : Int) (a2 : Int) (w : World) (b00 : 0 ≤ a0) (b01 : a0 ≤ 4294967295) (b20 : 0 ≤ a2) (b21 : a2 ≤ 65535) :
    Calls Try.prog 3 #[.int .u32 a0, .int .u16 0, .int .u16 a2] w fun e w' => e = .returned (.bool true) ∧ w = w' := by
  have hx : a0 ≤ 9000000000 ∧ 0 ≤ a0 + a2 ∧ a0 + a2 ≤ 9000000000 := by omega
  obtain ⟨hx1, hx3, hx4⟩ := hx
  have E1 := e_slots a0 (a0 + a2) b00 hx3
  have L0 : ¬ 0 < laps a0 a0 := by simp [laps]
  have F0 : far a0 a0 = false := by simp [far, laps]
  have L1 := laps_mono a0 a0 (a0 + a2) (by omega)
  have L2 : ¬ a0 + a2 < a0 := by omega
  go_enter Try.func3, Try.ntmps3
  go_wp2_with (first | (go_at_call 8; refine (awake_any _).mono ?_; rintro e w' ⟨rfl, rfl⟩) | (go_at_call 9; refine (slot_any _ _ (by omega) (by omega)).mono ?_; rintro e w' ⟨rfl, rfl⟩) | (go_at_call 10; refine (laps_any _ _ _ (by omega) (by omega) (by omega) (by omega)).mono ?_; rintro e w' ⟨rfl, rfl⟩) | (go_at_call 11; refine (far_any _ _ _ (by omega) (by omega) (by omega) (by omega)).mono ?_; rintro e w' ⟨rfl, rfl⟩))
  go_ret
  refine ⟨?_, rfl⟩
  first | (simp; done) | (simp; assumption)

set_option maxHeartbeats 1000000 in
theorem walk1 (a0 : Int) (a1 : Int) (a2 : Int) (w : World) (b00 : 0 ≤ a0) (b01 : a0 ≤ 4294967295) (b10 : 0 ≤ a1) (b11 : a1 ≤ 65535) (b20 : 0 ≤ a2) (b21 : a2 ≤ 65535) (h1 : a0 < a0 + a1) (h3 : 0 < laps (a0 + a1) a0) (h2 : a0 + a2 < a0 + a1) :
    Calls Try.prog 3 #[.int .u32 a0, .int .u16 a1, .int .u16 a2] w fun e w' => e = .returned (.bool true) ∧ w = w' := by
  have hx : 0 ≤ a0 + a1 ∧ a0 + a1 ≤ 9000000000 ∧ 0 ≤ a0 + a2 ∧ a0 + a2 ≤ 9000000000 := by omega
  obtain ⟨hx1, hx2, hx3, hx4⟩ := hx
  have E1' := e_slots' (a0 + a1) (a0 + a2) hx1 hx3
  have E2 := e_laps (a0 + a1) a0 h1 b00 hx2
  have h3' : far (a0 + a1) a0 = true := by simp [far, h3]
  have h3'' : a0 + 16 ≤ a0 + a1 := by rw [laps_gt _ _ h1] at h3; omega
  go_enter Try.func3, Try.ntmps3
  go_wp2_with (first | (go_at_call 8; refine (awake_any _).mono ?_; rintro e w' ⟨rfl, rfl⟩) | (go_at_call 9; refine (slot_any _ _ (by omega) (by omega)).mono ?_; rintro e w' ⟨rfl, rfl⟩) | (go_at_call 10; refine (laps_any _ _ _ (by omega) (by omega) (by omega) (by omega)).mono ?_; rintro e w' ⟨rfl, rfl⟩) | (go_at_call 11; refine (far_any _ _ _ (by omega) (by omega) (by omega) (by omega)).mono ?_; rintro e w' ⟨rfl, rfl⟩))
  go_ret
  refine ⟨?_, rfl⟩
  first | (simp; done) | (simp; assumption)

set_option maxHeartbeats 1000000 in
theorem walk2 (a0 : Int) (a1 : Int) (a2 : Int) (w : World) (b00 : 0 ≤ a0) (b01 : a0 ≤ 4294967295) (b10 : 0 ≤ a1) (b11 : a1 ≤ 65535) (b20 : 0 ≤ a2) (b21 : a2 ≤ 65535) (h1 : a0 < a0 + a1) (h3 : 0 < laps (a0 + a1) a0) (h2 : ¬ a0 + a2 < a0 + a1) :
    Calls Try.prog 3 #[.int .u32 a0, .int .u16 a1, .int .u16 a2] w fun e w' => e = .returned (.bool true) ∧ w = w' := by
  have hx : 0 ≤ a0 + a1 ∧ a0 + a1 ≤ 9000000000 ∧ 0 ≤ a0 + a2 ∧ a0 + a2 ≤ 9000000000 := by omega
  obtain ⟨hx1, hx2, hx3, hx4⟩ := hx
  have E1 := e_slots (a0 + a1) (a0 + a2) hx1 hx3
  have E2 := e_laps (a0 + a1) a0 h1 b00 hx2
  have h3' : far (a0 + a1) a0 = true := by simp [far, h3]
  have h3'' : a0 + 16 ≤ a0 + a1 := by rw [laps_gt _ _ h1] at h3; omega
  have L1 := laps_mono a0 (a0 + a1) (a0 + a2) (by omega)
  go_enter Try.func3, Try.ntmps3
  go_wp2_with (first | (go_at_call 8; refine (awake_any _).mono ?_; rintro e w' ⟨rfl, rfl⟩) | (go_at_call 9; refine (slot_any _ _ (by omega) (by omega)).mono ?_; rintro e w' ⟨rfl, rfl⟩) | (go_at_call 10; refine (laps_any _ _ _ (by omega) (by omega) (by omega) (by omega)).mono ?_; rintro e w' ⟨rfl, rfl⟩) | (go_at_call 11; refine (far_any _ _ _ (by omega) (by omega) (by omega) (by omega)).mono ?_; rintro e w' ⟨rfl, rfl⟩))
  go_ret
  refine ⟨?_, rfl⟩
  first | (simp; done) | (simp; assumption)

set_option maxHeartbeats 1000000 in
theorem walk3 (a0 : Int) (a1 : Int) (a2 : Int) (w : World) (b00 : 0 ≤ a0) (b01 : a0 ≤ 4294967295) (b10 : 0 ≤ a1) (b11 : a1 ≤ 65535) (b20 : 0 ≤ a2) (b21 : a2 ≤ 65535) (h1 : a0 < a0 + a1) (h3 : ¬ 0 < laps (a0 + a1) a0) (h2 : a0 + a2 < a0 + a1) :
    Calls Try.prog 3 #[.int .u32 a0, .int .u16 a1, .int .u16 a2] w fun e w' => e = .returned (.bool true) ∧ w = w' := by
  have hx : 0 ≤ a0 + a1 ∧ a0 + a1 ≤ 9000000000 ∧ 0 ≤ a0 + a2 ∧ a0 + a2 ≤ 9000000000 := by omega
  obtain ⟨hx1, hx2, hx3, hx4⟩ := hx
  have E1' := e_slots' (a0 + a1) (a0 + a2) hx1 hx3
  have E2 := e_laps (a0 + a1) a0 h1 b00 hx2
  have h3' : far (a0 + a1) a0 = false := by simp [far, h3]
  go_enter Try.func3, Try.ntmps3
  go_wp2_with (first | (go_at_call 8; refine (awake_any _).mono ?_; rintro e w' ⟨rfl, rfl⟩) | (go_at_call 9; refine (slot_any _ _ (by omega) (by omega)).mono ?_; rintro e w' ⟨rfl, rfl⟩) | (go_at_call 10; refine (laps_any _ _ _ (by omega) (by omega) (by omega) (by omega)).mono ?_; rintro e w' ⟨rfl, rfl⟩) | (go_at_call 11; refine (far_any _ _ _ (by omega) (by omega) (by omega) (by omega)).mono ?_; rintro e w' ⟨rfl, rfl⟩))
  go_ret
  refine ⟨?_, rfl⟩
  first | (simp; done) | (simp; assumption)

set_option maxHeartbeats 1000000 in
theorem walk4 (a0 : Int) (a1 : Int) (a2 : Int) (w : World) (b00 : 0 ≤ a0) (b01 : a0 ≤ 4294967295) (b10 : 0 ≤ a1) (b11 : a1 ≤ 65535) (b20 : 0 ≤ a2) (b21 : a2 ≤ 65535) (h1 : a0 < a0 + a1) (h3 : ¬ 0 < laps (a0 + a1) a0) (h2 : ¬ a0 + a2 < a0 + a1) :
    Calls Try.prog 3 #[.int .u32 a0, .int .u16 a1, .int .u16 a2] w fun e w' => e = .returned (.bool true) ∧ w = w' := by
  have hx : 0 ≤ a0 + a1 ∧ a0 + a1 ≤ 9000000000 ∧ 0 ≤ a0 + a2 ∧ a0 + a2 ≤ 9000000000 := by omega
  obtain ⟨hx1, hx2, hx3, hx4⟩ := hx
  have E1 := e_slots (a0 + a1) (a0 + a2) hx1 hx3
  have E2 := e_laps (a0 + a1) a0 h1 b00 hx2
  have h3' : far (a0 + a1) a0 = false := by simp [far, h3]
  have L1 := laps_mono a0 (a0 + a1) (a0 + a2) (by omega)
  go_enter Try.func3, Try.ntmps3
  go_wp2_with (first | (go_at_call 8; refine (awake_any _).mono ?_; rintro e w' ⟨rfl, rfl⟩) | (go_at_call 9; refine (slot_any _ _ (by omega) (by omega)).mono ?_; rintro e w' ⟨rfl, rfl⟩) | (go_at_call 10; refine (laps_any _ _ _ (by omega) (by omega) (by omega) (by omega)).mono ?_; rintro e w' ⟨rfl, rfl⟩) | (go_at_call 11; refine (far_any _ _ _ (by omega) (by omega) (by omega) (by omega)).mono ?_; rintro e w' ⟨rfl, rfl⟩))
  go_ret
  refine ⟨?_, rfl⟩
  first | (simp; done) | (simp; assumption)

theorem walk (a0 : Int) (a1 : Int) (a2 : Int) (w0 : (Lit.int .u32 a0).wf = true) (w1 : (Lit.int .u16 a1).wf = true) (w2 : (Lit.int .u16 a2).wf = true) (w : World) :
    Calls Try.prog 3 #[.int .u32 a0, .int .u16 a1, .int .u16 a2] w fun e w' => e = .returned (.bool true) ∧ Grown w w' := by
  obtain ⟨b00, b01⟩ := bounds_u32 w0
  obtain ⟨b10, b11⟩ := bounds_u16 w1
  obtain ⟨b20, b21⟩ := bounds_u16 w2
  have fin : ∀ (e : Ending) (w' : World), e = .returned (.bool true) ∧ w = w' → e = .returned (.bool true) ∧ Grown w w' := by
    rintro e w' ⟨rfl, rfl⟩; exact ⟨rfl, Grown.refl _⟩
  by_cases h1 : a1 = 0
  · subst h1; exact (walk0 a0 a2 w b00 b01 b20 b21).mono fin
  · by_cases h3 : 0 < laps (a0 + a1) a0 <;> by_cases h2 : a0 + a2 < a0 + a1
    · exact (walk1 a0 a1 a2 w b00 b01 b10 b11 b20 b21 (by omega) h3 h2).mono fin
    · exact (walk2 a0 a1 a2 w b00 b01 b10 b11 b20 b21 (by omega) h3 h2).mono fin
    · exact (walk3 a0 a1 a2 w b00 b01 b10 b11 b20 b21 (by omega) h3 h2).mono fin
    · exact (walk4 a0 a1 a2 w b00 b01 b10 b11 b20 b21 (by omega) h3 h2).mono fin

set_option maxRecDepth 100000 in
theorem lifted (os : Os) (started : os.Started) (H : Type) (enc : TypeId × Value → H) :
    ReturnsInHanded {} Try.checked os 3 .any (Rows.levelLapsSpec.pre6 enc Try.prog Try.f3 Rows.levelLapsRow.domain false) (Rows.levelLapsSpec.post enc Try.prog Try.f3 false true false false) := by
  refine returnsInHanded_of_change (C := Try.checked) own started (by kernel_rfl) Try.func3
    (ChangeSpec.witness6 (enc := enc) (C := Try.checked) false ⟨#[], #[.int .u32 0, .int .u16 0, .int .u16 0], []⟩ 8 (by kernel_rfl) (by kernel_rfl) (by kernel_rfl) (by kernel_rfl)) ?_
  intro W base args ds gs before hval0 hW hcnd _
  have hval : ∀ (j : Nat) t v, Try.f3.params[j]? = some t → args[j]? = some v → Value.okWide Try.prog W .any base t v := hval0
  have hW' := hW
  obtain ⟨p, q, hA0, hV, rfl, hfz, hnd⟩ := hW
  have hA : DataW.TrodAll enc Try.prog W 0 (fun _ => true) true Try.f3.params.toList args.toList ds p := hA0
  rw [Try.params3] at hA hval
  obtain ⟨v0, vs0, d0, ds0, p0, q0, hargs, rfl, rfl, h0, r0⟩ := trodAll_cons hA
  obtain ⟨v1, vs1, d1, ds1, p1, q1, rfl, rfl, rfl, h1, r1⟩ := trodAll_cons r0
  obtain ⟨v2, vs2, d2, ds2, p2, q2, rfl, rfl, rfl, h2, r2⟩ := trodAll_cons r1
  obtain ⟨rfl, rfl, rfl⟩ := trodAll_nil r2
  obtain rfl : args = #[v0, v1, v2] := by cases args; simp_all
  obtain ⟨rfl, rfl⟩ := trodVars_none hV
  obtain ⟨a0, rfl, rfl, rfl, w0⟩ := open_int Try.underlying22 (hval 0 22 v0 rfl rfl) h0
  obtain ⟨a1, rfl, rfl, rfl, w1⟩ := open_int Try.underlying23 (hval 1 23 v1 rfl rfl) h1
  obtain ⟨a2, rfl, rfl, rfl, w2⟩ := open_int Try.underlying23 (hval 2 23 v2 rfl rfl) h2
  clear hA0 hval0
  simp only [List.append_nil] at hW'
  refine (walk a0 a1 a2 w0 w1 w2 W).mono fun e W' ⟨he, hg⟩ => ?_
  subst he
  exact ⟨_, rfl, post_of_same (pa := []) (pv := []) hW' (fun _ _ _ => (trodAll_cons_mk (shut_bool Try.underlying4 _) trodAll_mk0)) (fun sp _ => (trodAll_cons_mk (shut_int Try.underlying22 w0) (trodAll_cons_mk (shut_int Try.underlying23 w1) (trodAll_cons_mk (shut_int Try.underlying23 w2) trodAll_mk0)))) (fun _ _ => rfl) rfl
    (hg.frame _) hg.2.1 (ok_one (by kernel_rfl) rfl (okWide_bool_mk Try.underlying4 _))⟩

theorem over : Rows.levelLapsRow.holds Try.pinned (OpenSpec.ofChange Rows.levelLapsSpec) :=
  OpenClaim.holds_of_wide 3 Try.f3 rfl rfl rfl rfl rfl rfl rfl ⟨rfl, rfl, rfl, rfl, rfl⟩ rfl rfl rfl rfl rfl (by kernel_rfl) Try.func3 (by kernel_rfl)
    (of_decide_eq_true (by kernel_rfl)) (by unfold Func.isWrapper; first | (rw [if_pos (by decide +kernel)]; kernel_rfl) | (rw [if_neg (by decide +kernel)]; exact ⟨rfl, rfl⟩))
    (fun os started H enc _ => lifted os started H enc)

theorem proved : Rows.LevelLapsSaid :=
  over
#print axioms proved
end Go.Proofs.Ytiiaaigijndgfaa.levelLaps
