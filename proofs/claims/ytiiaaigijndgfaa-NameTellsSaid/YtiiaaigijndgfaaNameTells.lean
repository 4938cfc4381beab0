/- NameTells holds for every input: no condition. -/
import Derived.Test.YtiiaaigijndgfaaNameOwn
namespace Go.Proofs.Ytiiaaigijndgfaa.nameTells
open Go.ChangeShapes Go.WideShapes Go.ChangeAt Go.RowKit
open Go.Proofs.Ytiiaaigijndgfaa.nm Go.Proofs.Ytiiaaigijndgfaa.nameOwn

set_option maxHeartbeats 1000000 in
theorem walk_no (W : World) (s0 : ByteArray) (h : 1000 < (s0.size : Int)) :
    Calls Try.prog 6 #[.string s0] W fun e w' => e = .returned (.bool true) ∧ Calm W w' := by
  go_enter Try.func6, Try.ntmps6
  go_wp2_with (first | (go_at_call 12; refine (awake_any _).mono ?_; rintro e w' ⟨rfl, hb⟩))
  go_ret
  refine ⟨rfl, ?_⟩
  (repeat' (first | (with_reducible exact Calm.refl _) | (with_reducible assumption) | (with_reducible refine Calm.drew ?_) | (with_reducible refine Calm.alloc ?_ _) | (with_reducible refine Calm.trans ?_ (by assumption))))

theorem ok_form (s : ByteArray) : ofOk s = !(ofG s).toList.isEmpty := by rw [ofOk_iff, isEmpty_iff]

theorem own_no (h s : ByteArray) (g : groupB s = false) : ownS h s = ⟨#[]⟩ := by unfold ownS; rw [g]; rfl
theorem own_yes' (h s : ByteArray) (g : groupB s = true) : ownS h s = h ++ s := by unfold ownS; rw [g]; rfl
theorem has_app (h s : ByteArray) : hasS (h ++ s) h = true := by
  unfold hasS Lib.hasPrefix; rw [append_toList]; simp
theorem cut_app (h s : ByteArray) : cutS (h ++ s) h = s := by
  apply ba_ext
  unfold cutS Lib.trimPrefix
  have := has_app h s
  unfold hasS at this
  rw [if_pos this, append_toList]
  simp
theorem of_retry (s : ByteArray) (g : groupB s = true) : ofG (retryC ++ s) = s := by
  unfold ofG hitS
  rw [has_app, cut_app, g]; rfl
theorem of_dead (s : ByteArray) (g : groupB s = true) : ofG (deadC ++ s) = s := by
  have h0 : hasS (deadC ++ s) retryC = false := by
    unfold hasS Lib.hasPrefix; rw [append_toList]; rfl
  unfold ofG hitS
  rw [h0, has_app, cut_app, g]; rfl
theorem top_retry (s : ByteArray) (g : groupB s = true) : topicB (retryC ++ s) = true := by
  unfold topicB ofOk hitS
  rw [has_app, cut_app, g]; rfl
theorem top_dead (s : ByteArray) (g : groupB s = true) : topicB (deadC ++ s) = true := by
  unfold topicB ofOk hitS
  rw [has_app deadC, cut_app deadC, g]; simp

set_option maxHeartbeats 4000000 in
theorem walk_nog (W : World) (s0 : ByteArray) (h : ¬ 1000 < (s0.size : Int)) (g : groupB s0 = false) :
    Calls Try.prog 6 #[.string s0] W fun e w' => e = .returned (.bool true) ∧ Calm W w' := by
  have hz : s0.size ≤ maxLen := by unfold maxLen; omega
  have e1 := own_no retryC s0 g
  have e2 := own_no deadC s0 g
  have e3 := ok_form s0
  go_enter Try.func6, Try.ntmps6
  go_wp2_with (first | (go_at_call 12; refine (awake_any _).mono ?_; rintro e w' ⟨rfl, hb⟩) | (go_at_call 18; refine (Of_any _ _).mono ?_; rintro e w' ⟨rfl, hb⟩) | (go_at_call 13; refine (Group_any _ _).mono ?_; rintro e w' ⟨rfl, hb⟩) | (go_at_call 16; refine (Plain_any _ _).mono ?_; rintro e w' ⟨rfl, hb⟩) | (go_at_call 14; refine (Retry_any _ _).mono ?_; rintro e w' ⟨rfl, hb⟩) | (go_at_call 15; refine (Dead_any _ _).mono ?_; rintro e w' ⟨rfl, hb⟩) | (go_at_call 21; refine (Topic_any _ _).mono ?_; rintro e w' ⟨rfl, hb⟩) | (go_at_call 23; refine (Tag_any _ _).mono ?_; rintro e w' ⟨rfl, hb⟩) | (go_at_call 25; refine (Key_any _ _ hz).mono ?_; rintro e w' ⟨rfl, rfl⟩) | (go_at_call 19; refine (rPlain_any _ _ hz).mono ?_; rintro e w' ⟨rfl, rfl⟩) | (go_at_call 20; refine (rGroup_any _ _ hz).mono ?_; rintro e w' ⟨rfl, rfl⟩) | (go_at_call 22; refine (rTopic_any _ _ hz).mono ?_; rintro e w' ⟨rfl, rfl⟩) | (go_at_call 24; refine (rTag_any _ _ hz).mono ?_; rintro e w' ⟨rfl, rfl⟩) | (go_at_call 26; refine (rKey_any _ _ hz).mono ?_; rintro e w' ⟨rfl, rfl⟩) | (go_at_call 27; refine (rOf_any _ _ hz).mono ?_; rintro e w' ⟨rfl, rfl⟩))
  go_ret
  refine ⟨rfl, ?_⟩
  (repeat' (first | (with_reducible exact Calm.refl _) | (with_reducible assumption) | (with_reducible refine Calm.drew ?_) | (with_reducible refine Calm.alloc ?_ _) | (with_reducible refine Calm.trans ?_ (by assumption))))

set_option maxHeartbeats 4000000 in
theorem walk_yes (W : World) (s0 : ByteArray) (h : ¬ 1000 < (s0.size : Int)) (g : groupB s0 = true) :
    Calls Try.prog 6 #[.string s0] W fun e w' => e = .returned (.bool true) ∧ Calm W w' := by
  have hz : s0.size ≤ maxLen := by unfold maxLen; omega
  have e1 := own_yes' retryC s0 g
  have e2 := own_yes' deadC s0 g
  have e3 := ok_form s0
  have t1 := top_retry s0 g
  have t2 := top_dead s0 g
  have o1 := of_retry s0 g
  have o2 := of_dead s0 g
  have k1 : ofOk (retryC ++ s0) = true := by unfold ofOk hitS; rw [has_app, cut_app, g]; rfl
  have k2 : ofOk (deadC ++ s0) = true := by unfold ofOk hitS; rw [has_app deadC, cut_app deadC, g]; simp
  have hz8 : (s0.size : Int) ≤ 8 := by unfold groupB groupL at g; simp at g; omega
  go_enter Try.func6, Try.ntmps6
  go_wp2_with (first | (go_at_call 12; refine (awake_any _).mono ?_; rintro e w' ⟨rfl, hb⟩) | (go_at_call 18; refine (Of_any _ _).mono ?_; rintro e w' ⟨rfl, hb⟩) | (go_at_call 13; refine (Group_any _ _).mono ?_; rintro e w' ⟨rfl, hb⟩) | (go_at_call 16; refine (Plain_any _ _).mono ?_; rintro e w' ⟨rfl, hb⟩) | (go_at_call 14; refine (Retry_any _ _).mono ?_; rintro e w' ⟨rfl, hb⟩) | (go_at_call 15; refine (Dead_any _ _).mono ?_; rintro e w' ⟨rfl, hb⟩) | (go_at_call 21; refine (Topic_any _ _).mono ?_; rintro e w' ⟨rfl, hb⟩) | (go_at_call 23; refine (Tag_any _ _).mono ?_; rintro e w' ⟨rfl, hb⟩) | (go_at_call 25; refine (Key_any _ _ hz).mono ?_; rintro e w' ⟨rfl, rfl⟩) | (go_at_call 19; refine (rPlain_any _ _ hz).mono ?_; rintro e w' ⟨rfl, rfl⟩) | (go_at_call 20; refine (rGroup_any _ _ hz).mono ?_; rintro e w' ⟨rfl, rfl⟩) | (go_at_call 22; refine (rTopic_any _ _ hz).mono ?_; rintro e w' ⟨rfl, rfl⟩) | (go_at_call 24; refine (rTag_any _ _ hz).mono ?_; rintro e w' ⟨rfl, rfl⟩) | (go_at_call 26; refine (rKey_any _ _ hz).mono ?_; rintro e w' ⟨rfl, rfl⟩) | (go_at_call 27; refine (rOf_any _ _ hz).mono ?_; rintro e w' ⟨rfl, rfl⟩))
  go_ret
  refine ⟨ret_bool (by simp; omega), ?_⟩
  (repeat' (first | (with_reducible exact Calm.refl _) | (with_reducible assumption) | (with_reducible refine Calm.drew ?_) | (with_reducible refine Calm.alloc ?_ _) | (with_reducible refine Calm.trans ?_ (by assumption))))

theorem walk (W : World) (s0 : ByteArray) (z0 : s0.size ≤ maxLen) :
    Calls Try.prog 6 #[.string s0] W fun e w' => e = .returned (.bool true) ∧ Calm W w' := by
  by_cases h1 : 1000 < (s0.size : Int)
  · exact walk_no W s0 h1
  cases g1 : groupB s0
  · exact walk_nog W s0 h1 g1
  · exact walk_yes W s0 h1 g1

theorem own : ownKnob Try.prog.godebug = none := by kernel_rfl
theorem laidOut : laidOutB Try.prog = true := by kernel_rfl
set_option maxRecDepth 100000 in
set_option linter.unusedVariables false in
theorem lifted (os : Os) (started : os.Started) (H : Type) (enc : TypeId × Value → H) :
    ReturnsInHanded {} Try.checked os 6 .any (Rows.nameTellsSpec.pre6 enc Try.prog Try.f6 Rows.nameTellsRow.domain false) (Rows.nameTellsSpec.post enc Try.prog Try.f6 false true false false) := by
  refine returnsInHanded_of_change_sized (C := Try.checked) own started (by kernel_rfl) Try.func6
    (ChangeSpec.witness6 (enc := enc) (C := Try.checked) false ⟨#[], #[.string ⟨#[]⟩], []⟩ 8 (by kernel_rfl) (by kernel_rfl) (by kernel_rfl) (by kernel_rfl)) ?_
  intro W base args ds gs before hval0 hW hcnd hsz0 _
  have hsz : (DataW.weightsEach Try.prog (Try.f6.params.toList ++ []) (ds ++ gs)).all (· ≤ reachBytes) = true := hsz0
  clear hsz0
  have hval : ∀ (j : Nat) t v, Try.f6.params[j]? = some t → args[j]? = some v → Value.okWide Try.prog W .any base t v := hval0
  have hW' := hW
  obtain ⟨p, q, hA0, hV, rfl, hfz, hnd⟩ := hW
  have hA : DataW.TrodAll enc Try.prog W 0 (fun _ => true) true Try.f6.params.toList args.toList ds p := hA0
  rw [Try.params6] at hA hval hsz
  obtain ⟨v0, vs0, d0, ds0, p0, q0, hargs, rfl, rfl, h0, r0'⟩ := trodAll_cons hA
  obtain ⟨rfl, rfl, rfl⟩ := trodAll_nil r0'
  obtain rfl : args = #[v0] := by cases args; simp_all
  obtain ⟨rfl, rfl⟩ := trodVars_none hV
  clear hA0 hval0
  have wt0 := fun n hn => (by simpa using List.all_eq_true.1 hsz n (DataW.weights_mem_each (j := 0) rfl rfl n hn) : n ≤ reachBytes)
  have hlt : ∀ x ∈ p0 ++ [], x.block < W.heap.size := fun x hx => by have := hW'.lt x (by simpa using hx); simpa using this
  obtain ⟨s0, e0, _, _, z0⟩ := Go.ChangeMaps.open_string Try.underlying9 (hval 0 9 v0 rfl rfl) h0
  subst e0
  refine (walk W s0 z0).mono fun e W' ⟨he, hg⟩ => ?_
  subst he
  refine ⟨_, rfl, _, _, _, [] ++ [], p0 ++ [], [], hW', ?_, ?_, ?_, hg.frame _, fun h => by cases h⟩
  · exact trodAll_mk1 (shut_bool Try.underlying4 true)
  · exact trodAll_cons_mk (Below.trod laidOut (by kernel_rfl) (of_decide_eq_true (by kernel_rfl)) h0 hg (fun x hx => hlt x (by simp [hx]))) (trodAll_mk0)
  · exact rfl

theorem over : Rows.nameTellsRow.holds Try.pinned (OpenSpec.ofChange Rows.nameTellsSpec) :=
  OpenClaim.holds_of_wide 6 Try.f6 rfl rfl rfl rfl rfl rfl rfl ⟨rfl, rfl, rfl, rfl, rfl⟩ rfl rfl rfl rfl rfl (by kernel_rfl) Try.func6 (by kernel_rfl)
    (of_decide_eq_true (by kernel_rfl)) (by unfold Func.isWrapper; first | (rw [if_pos (by decide +kernel)]; kernel_rfl) | (rw [if_neg (by decide +kernel)]; exact ⟨rfl, rfl⟩))
    (fun os started H enc _ => lifted os started H enc)

theorem proved : Rows.NameTellsSaid := over
#print axioms proved
end Go.Proofs.Ytiiaaigijndgfaa.nameTells
