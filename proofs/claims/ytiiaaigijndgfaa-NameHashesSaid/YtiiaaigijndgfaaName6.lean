/- What the laws of layer 3 share. -/
import Derived.Test.YtiiaaigijndgfaaName5
namespace Go.Proofs.Ytiiaaigijndgfaa.nm
open Go.ChangeShapes Go.WideShapes Go.ChangeAt Go.RowKit

set_option maxHeartbeats 1000000 in
theorem awake_any (w : World) :
    Calls Try.prog 12 #[] w fun e w' => e = .returned (.bool true) ∧ Calm w w' := by
  have e1 : ownS retryC ⟨#[103]⟩ = ⟨#[37, 114, 101, 116, 114, 121, 37, 103]⟩ := by decide +kernel
  have e2 : topicB ⟨#[37, 114, 101, 116, 114, 121, 37, 103]⟩ = true := by decide +kernel
  have e3 : plainB ⟨#[37, 114, 101, 116, 114, 121, 37, 103]⟩ = false := by decide +kernel
  go_enter Try.func12, Try.ntmps12
  go_wp2_with (first | (go_at_call 14; refine (Retry_any _ _).mono ?_; rintro e w' ⟨rfl, hb⟩) | (go_at_call 21; refine (Topic_any _ _).mono ?_; rintro e w' ⟨rfl, hb⟩) | (go_at_call 16; refine (Plain_any _ _).mono ?_; rintro e w' ⟨rfl, hb⟩))
  go_ret
  refine ⟨rfl, ?_⟩
  (repeat' (first | (with_reducible exact Calm.refl _) | (with_reducible assumption) | (with_reducible refine Calm.drew ?_) | (with_reducible refine Calm.alloc ?_ _) | (with_reducible refine Calm.trans ?_ (by assumption))))
end Go.Proofs.Ytiiaaigijndgfaa.nm
