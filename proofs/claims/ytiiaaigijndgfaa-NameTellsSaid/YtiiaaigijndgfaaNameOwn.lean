/- NameOwn holds for every input: no condition. -/
import Derived.Test.YtiiaaigijndgfaaName6
namespace Go.Proofs.Ytiiaaigijndgfaa.nameOwn
open Go.ChangeShapes Go.WideShapes Go.ChangeAt Go.RowKit
open Go.Proofs.Ytiiaaigijndgfaa.nm

theorem own_yes (h s : ByteArray) (g : groupB s = true) : (ownS h s).toList = h.data.toList ++ s.data.toList := by
  unfold ownS; rw [g, if_pos rfl, Lib.toList_data, append_toList]
theorem plain_own (h s : ByteArray) (g : groupB s = true) (c : UInt8) (hc : c ∈ h.data.toList) (hs : signB c = false) : plainB (ownS h s) = false := by
  have : (ownS h s).data.toList.all signB = false := by
    rw [← Lib.toList_data, own_yes h s g, List.all_eq_false]
    exact ⟨c, List.mem_append_left _ hc, by simp [hs]⟩
  unfold plainB plainL; rw [this]; simp
theorem own_eq (h s t : ByteArray) (g : groupB s = true) (g' : groupB t = true) : ((ownS h s).toList == (ownS h t).toList) = (s.toList == t.toList) := by
  rw [own_yes h s g, own_yes h t g', Lib.toList_data, Lib.toList_data, Bool.eq_iff_iff, beq_iff_eq, beq_iff_eq]
  exact ⟨fun e => List.append_cancel_left e, fun e => by rw [e]⟩
theorem own_ne (s t : ByteArray) (g : groupB s = true) (g' : groupB t = true) : ((ownS retryC s).toList == (ownS deadC t).toList) = false := by
  rw [own_yes retryC s g, own_yes deadC t g', beq_eq_false_iff_ne]
  simp
theorem group_plain (s : ByteArray) (g : groupB s = true) : plainB s = true := by
  unfold groupB groupL at g; simp at g; exact g.1

set_option maxHeartbeats 1000000 in
theorem walk_no (W : World) (s0 : ByteArray) (s1 : ByteArray) (h : 100 < (s0.size : Int) ∨ ¬ 100 < (s0.size : Int) ∧ 100 < (s1.size : Int)) :
    Calls Try.prog 4 #[.string s0, .string s1] W fun e w' => e = .returned (.bool true) ∧ Calm W w' := by
  rcases h with h1 | ⟨h1, h2⟩
  all_goals
    go_enter Try.func4, Try.ntmps4
    go_wp2_with (first | (go_at_call 12; refine (awake_any _).mono ?_; rintro e w' ⟨rfl, hb⟩))
    go_ret
    refine ⟨rfl, ?_⟩
    (repeat' (first | (with_reducible exact Calm.refl _) | (with_reducible assumption) | (with_reducible refine Calm.drew ?_) | (with_reducible refine Calm.alloc ?_ _) | (with_reducible refine Calm.trans ?_ (by assumption))))

set_option maxHeartbeats 1000000 in
theorem walk_nog (W : World) (s0 : ByteArray) (s1 : ByteArray) (h1 : ¬ 100 < (s0.size : Int)) (h2 : ¬ 100 < (s1.size : Int)) (h : groupB s0 = false ∨ groupB s0 = true ∧ groupB s1 = false) :
    Calls Try.prog 4 #[.string s0, .string s1] W fun e w' => e = .returned (.bool true) ∧ Calm W w' := by
  rcases h with g1 | ⟨g1, g2⟩
  all_goals
    go_enter Try.func4, Try.ntmps4
    go_wp2_with (first | (go_at_call 12; refine (awake_any _).mono ?_; rintro e w' ⟨rfl, hb⟩) | (go_at_call 13; refine (Group_any _ _).mono ?_; rintro e w' ⟨rfl, hb⟩))
    go_ret
    refine ⟨rfl, ?_⟩
    (repeat' (first | (with_reducible exact Calm.refl _) | (with_reducible assumption) | (with_reducible refine Calm.drew ?_) | (with_reducible refine Calm.alloc ?_ _) | (with_reducible refine Calm.trans ?_ (by assumption))))

set_option maxHeartbeats 4000000 in
theorem walk_yes (W : World) (s0 : ByteArray) (s1 : ByteArray) (h1 : ¬ 100 < (s0.size : Int)) (h2 : ¬ 100 < (s1.size : Int)) (g1 : groupB s0 = true) (g2 : groupB s1 = true) :
    Calls Try.prog 4 #[.string s0, .string s1] W fun e w' => e = .returned (.bool true) ∧ Calm W w' := by
  have n1 : plainB (ownS retryC s0) = false := plain_own _ _ g1 37 (by decide) (by decide)
  have n2 : plainB (ownS deadC s0) = false := plain_own _ _ g1 37 (by decide) (by decide)
  have n3 := own_ne s0 s0 g1 g1
  have n4 := own_ne s0 s1 g1 g2
  have n5 := own_eq retryC s0 s1 g1 g2
  have n6 := own_eq deadC s0 s1 g1 g2
  have n7 := group_plain s0 g1
  go_enter Try.func4, Try.ntmps4
  go_wp2_with (first | (go_at_call 12; refine (awake_any _).mono ?_; rintro e w' ⟨rfl, hb⟩) | (go_at_call 13; refine (Group_any _ _).mono ?_; rintro e w' ⟨rfl, hb⟩) | (go_at_call 16; refine (Plain_any _ _).mono ?_; rintro e w' ⟨rfl, hb⟩) | (go_at_call 14; refine (Retry_any _ _).mono ?_; rintro e w' ⟨rfl, hb⟩) | (go_at_call 15; refine (Dead_any _ _).mono ?_; rintro e w' ⟨rfl, hb⟩))
  go_ret
  refine ⟨rfl, ?_⟩
  (repeat' (first | (with_reducible exact Calm.refl _) | (with_reducible assumption) | (with_reducible refine Calm.drew ?_) | (with_reducible refine Calm.alloc ?_ _) | (with_reducible refine Calm.trans ?_ (by assumption))))

theorem walk (W : World) (s0 : ByteArray) (z0 : s0.size ≤ maxLen) (s1 : ByteArray) (z1 : s1.size ≤ maxLen) :
    Calls Try.prog 4 #[.string s0, .string s1] W fun e w' => e = .returned (.bool true) ∧ Calm W w' := by
  by_cases h1 : 100 < (s0.size : Int)
  · exact walk_no W s0 s1 (.inl h1)
  by_cases h2 : 100 < (s1.size : Int)
  · exact walk_no W s0 s1 (.inr ⟨h1, h2⟩)
  cases g1 : groupB s0
  · exact walk_nog W s0 s1 h1 h2 (.inl g1)
  cases g2 : groupB s1
  · exact walk_nog W s0 s1 h1 h2 (.inr ⟨g1, g2⟩)
  exact walk_yes W s0 s1 h1 h2 g1 g2

theorem own : ownKnob Try.prog.godebug = none := by kernel_rfl
theorem laidOut : laidOutB Try.prog = true := by kernel_rfl
set_option maxRecDepth 100000 in
set_option linter.unusedVariables false in
theorem lifted (os : Os) (started : os.Started) (H : Type) (enc : TypeId × Value → H) :
    ReturnsInHanded {} Try.checked os 4 .any (Rows.nameOwnSpec.pre6 enc Try.prog Try.f4 Rows.nameOwnRow.domain false) (Rows.nameOwnSpec.post enc Try.prog Try.f4 false true false false) := by
  refine returnsInHanded_of_change_sized (C := Try.checked) own started (by kernel_rfl) Try.func4
    (ChangeSpec.witness6 (enc := enc) (C := Try.checked) false ⟨#[], #[.string ⟨#[]⟩, .string ⟨#[]⟩], []⟩ 8 (by kernel_rfl) (by kernel_rfl) (by kernel_rfl) (by kernel_rfl)) ?_
  intro W base args ds gs before hval0 hW hcnd hsz0 _
  have hsz : (DataW.weightsEach Try.prog (Try.f4.params.toList ++ []) (ds ++ gs)).all (· ≤ reachBytes) = true := hsz0
  clear hsz0
  have hval : ∀ (j : Nat) t v, Try.f4.params[j]? = some t → args[j]? = some v → Value.okWide Try.prog W .any base t v := hval0
  have hW' := hW
  obtain ⟨p, q, hA0, hV, rfl, hfz, hnd⟩ := hW
  have hA : DataW.TrodAll enc Try.prog W 0 (fun _ => true) true Try.f4.params.toList args.toList ds p := hA0
  rw [Try.params4] at hA hval hsz
  obtain ⟨v0, vs0, d0, ds0, p0, q0, hargs, rfl, rfl, h0, r0'⟩ := trodAll_cons hA
  obtain ⟨v1, vs1, d1, ds1, p1, q1, rfl, rfl, rfl, h1, r1'⟩ := trodAll_cons r0'
  obtain ⟨rfl, rfl, rfl⟩ := trodAll_nil r1'
  obtain rfl : args = #[v0, v1] := by cases args; simp_all
  obtain ⟨rfl, rfl⟩ := trodVars_none hV
  clear hA0 hval0
  have wt0 := fun n hn => (by simpa using List.all_eq_true.1 hsz n (DataW.weights_mem_each (j := 0) rfl rfl n hn) : n ≤ reachBytes)
  have wt1 := fun n hn => (by simpa using List.all_eq_true.1 hsz n (DataW.weights_mem_each (j := 1) rfl rfl n hn) : n ≤ reachBytes)
  have hlt : ∀ x ∈ p0 ++ (p1 ++ []), x.block < W.heap.size := fun x hx => by have := hW'.lt x (by simpa using hx); simpa using this
  obtain ⟨s0, e0, _, _, z0⟩ := Go.ChangeMaps.open_string Try.underlying9 (hval 0 9 v0 rfl rfl) h0
  subst e0
  obtain ⟨s1, e1, _, _, z1⟩ := Go.ChangeMaps.open_string Try.underlying9 (hval 1 9 v1 rfl rfl) h1
  subst e1
  refine (walk W s0 z0 s1 z1).mono fun e W' ⟨he, hg⟩ => ?_
  subst he
  refine ⟨_, rfl, _, _, _, [] ++ [], p0 ++ (p1 ++ []), [], hW', ?_, ?_, ?_, hg.frame _, fun h => by cases h⟩
  · exact trodAll_mk1 (shut_bool Try.underlying4 true)
  · exact trodAll_cons_mk (Below.trod laidOut (by kernel_rfl) (of_decide_eq_true (by kernel_rfl)) h0 hg (fun x hx => hlt x (by simp [hx]))) (trodAll_cons_mk (Below.trod laidOut (by kernel_rfl) (of_decide_eq_true (by kernel_rfl)) h1 hg (fun x hx => hlt x (by simp [hx]))) (trodAll_mk0))
  · exact rfl

theorem over : Rows.nameOwnRow.holds Try.pinned (OpenSpec.ofChange Rows.nameOwnSpec) :=
  OpenClaim.holds_of_wide 4 Try.f4 rfl rfl rfl rfl rfl rfl rfl ⟨rfl, rfl, rfl, rfl, rfl⟩ rfl rfl rfl rfl rfl (by kernel_rfl) Try.func4 (by kernel_rfl)
    (of_decide_eq_true (by kernel_rfl)) (by unfold Func.isWrapper; first | (rw [if_pos (by decide +kernel)]; kernel_rfl) | (rw [if_neg (by decide +kernel)]; exact ⟨rfl, rfl⟩))
    (fun os started H enc _ => lifted os started H enc)

theorem proved : Rows.NameOwnSaid := over
#print axioms proved
end Go.Proofs.Ytiiaaigijndgfaa.nameOwn
