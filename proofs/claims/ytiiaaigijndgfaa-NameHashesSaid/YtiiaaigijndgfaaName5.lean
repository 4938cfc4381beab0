/- The contracts of package name and of reveilleref03, continued. -/
import Derived.Test.YtiiaaigijndgfaaName4
namespace Go.Proofs.Ytiiaaigijndgfaa.nm
open Go.ChangeShapes Go.WideShapes Go.ChangeAt Go.RowKit

theorem hasS_raw (s h : ByteArray) : hasS s h = (decide (h.size ≤ s.size) && ((s.extract 0 h.size).toList == h.toList)) := by
  unfold hasS; rw [Lib.hasPrefix_raw]
theorem hasS_size {s h : ByteArray} (g : hasS s h = true) : h.size ≤ s.size := by
  rw [hasS_raw] at g; simp at g; exact g.1
theorem cutS_hit {s h : ByteArray} (g : hasS s h = true) : cutS s h = s.extract h.size s.size := by
  rw [hasS_raw, Bool.and_eq_true] at g
  exact Lib.trimPrefix_hit s h (by simpa using g.1) g.2

set_option maxHeartbeats 1000000 in
theorem rOf_any (s : ByteArray) (w : World) (hs : s.size ≤ maxLen) :
    Calls Try.prog 27 #[.string s] w fun e w' => e = .returned (.string (ofG s)) ∧ w = w' := by
  have h7 : (s.extract 7 s.size).size ≤ maxLen := by simp; omega
  have h6 : (s.extract 6 s.size).size ≤ maxLen := by simp; omega
  have s7 : hasS s retryC = true → 7 ≤ (s.size : Int) := fun h => by have := hasS_size h; simp [retryC] at this; have e : (ByteArray.mk #[37, 114, 101, 116, 114, 121, 37]).size = 7 := rfl; omega
  have s6 : hasS s deadC = true → 6 ≤ (s.size : Int) := fun h => by have := hasS_size h; simp [deadC] at this; have e : (ByteArray.mk #[37, 100, 101, 97, 100, 37]).size = 6 := rfl; omega
  have c7 : hasS s retryC = true → cutS s retryC = s.extract 7 s.size := fun h => cutS_hit h
  have c6 : hasS s deadC = true → cutS s deadC = s.extract 6 s.size := fun h => cutS_hit h
  rcases three s retryC with ⟨h0, h1⟩ | ⟨h0, h1, h2⟩ | ⟨h0, h1, h2⟩
  · rcases three s deadC with ⟨g0, g1⟩ | ⟨g0, g1, g2⟩ | ⟨g0, g1, g2⟩
    · have e1 := box (show ofG s = ⟨#[]⟩ by unfold ofG; rw [h0, g0]; rfl)
      clear h7 h6 s7 s6 c7 c6 h0 g0
      go_enter Try.func27, Try.ntmps27
      go_wp2_with (first | (go_at_call 36; refine (rHas_any _ _ _ hs (by decide)).mono ?_; rintro e w' ⟨rfl, rfl⟩) | (go_at_call 20; refine (rGroup_any _ _ (by assumption)).mono ?_; rintro e w' ⟨rfl, rfl⟩))
      go_ret
      exact ⟨ret_str (by rw [e1.out]), rfl⟩
    · have e1 := box (show ofG s = ⟨#[]⟩ by unfold ofG; rw [h0, g0]; rfl)
      have z6 := s6 g1
      rw [c6 g1] at g2
      clear s7 s6 c7 c6 h0 g0
      go_enter Try.func27, Try.ntmps27
      go_wp2_with (first | (go_at_call 36; refine (rHas_any _ _ _ hs (by decide)).mono ?_; rintro e w' ⟨rfl, rfl⟩) | (go_at_call 20; refine (rGroup_any _ _ (by assumption)).mono ?_; rintro e w' ⟨rfl, rfl⟩))
      go_ret
      exact ⟨ret_str (by rw [e1.out]), rfl⟩
    · have e1 := box (show ofG s = s.extract 6 s.size by unfold ofG; rw [h0, g0, c6 g1]; rfl)
      have z6 := s6 g1
      rw [c6 g1] at g2
      clear s7 s6 c7 c6 h0 g0
      go_enter Try.func27, Try.ntmps27
      go_wp2_with (first | (go_at_call 36; refine (rHas_any _ _ _ hs (by decide)).mono ?_; rintro e w' ⟨rfl, rfl⟩) | (go_at_call 20; refine (rGroup_any _ _ (by assumption)).mono ?_; rintro e w' ⟨rfl, rfl⟩))
      go_ret
      exact ⟨ret_str (by rw [e1.out]), rfl⟩
  · have z7 := s7 h1
    rw [c7 h1] at h2
    rcases three s deadC with ⟨g0, g1⟩ | ⟨g0, g1, g2⟩ | ⟨g0, g1, g2⟩
    · have e1 := box (show ofG s = ⟨#[]⟩ by unfold ofG; rw [h0, g0]; rfl)
      clear s7 s6 c7 c6 h0 g0
      go_enter Try.func27, Try.ntmps27
      go_wp2_with (first | (go_at_call 36; refine (rHas_any _ _ _ hs (by decide)).mono ?_; rintro e w' ⟨rfl, rfl⟩) | (go_at_call 20; refine (rGroup_any _ _ (by assumption)).mono ?_; rintro e w' ⟨rfl, rfl⟩))
      go_ret
      exact ⟨ret_str (by rw [e1.out]), rfl⟩
    · have e1 := box (show ofG s = ⟨#[]⟩ by unfold ofG; rw [h0, g0]; rfl)
      have z6 := s6 g1
      rw [c6 g1] at g2
      clear s7 s6 c7 c6 h0 g0
      go_enter Try.func27, Try.ntmps27
      go_wp2_with (first | (go_at_call 36; refine (rHas_any _ _ _ hs (by decide)).mono ?_; rintro e w' ⟨rfl, rfl⟩) | (go_at_call 20; refine (rGroup_any _ _ (by assumption)).mono ?_; rintro e w' ⟨rfl, rfl⟩))
      go_ret
      exact ⟨ret_str (by rw [e1.out]), rfl⟩
    · have e1 := box (show ofG s = s.extract 6 s.size by unfold ofG; rw [h0, g0, c6 g1]; rfl)
      have z6 := s6 g1
      rw [c6 g1] at g2
      clear s7 s6 c7 c6 h0 g0
      go_enter Try.func27, Try.ntmps27
      go_wp2_with (first | (go_at_call 36; refine (rHas_any _ _ _ hs (by decide)).mono ?_; rintro e w' ⟨rfl, rfl⟩) | (go_at_call 20; refine (rGroup_any _ _ (by assumption)).mono ?_; rintro e w' ⟨rfl, rfl⟩))
      go_ret
      exact ⟨ret_str (by rw [e1.out]), rfl⟩
  · have z7 := s7 h1
    have e1 := box (show ofG s = s.extract 7 s.size by unfold ofG; rw [h0, c7 h1]; rfl)
    rw [c7 h1] at h2
    clear s7 s6 c7 c6 h0
    go_enter Try.func27, Try.ntmps27
    go_wp2_with (first | (go_at_call 36; refine (rHas_any _ _ _ hs (by decide)).mono ?_; rintro e w' ⟨rfl, rfl⟩) | (go_at_call 20; refine (rGroup_any _ _ (by assumption)).mono ?_; rintro e w' ⟨rfl, rfl⟩))
    go_ret
    exact ⟨ret_str (by rw [e1.out]), rfl⟩

theorem ofOk_iff (s : ByteArray) : ofOk s = !decide ((ofG s).size = 0) := by
  have hg : ∀ x : ByteArray, groupB x = true → x.size ≠ 0 := by
    intro x h hz
    unfold groupB groupL plainL at h
    simp [hz] at h
  unfold ofOk ofG
  cases h1 : hitS s retryC
  · cases h2 : hitS s deadC
    · rfl
    · have : groupB (cutS s deadC) = true := by unfold hitS at h2; simp at h2; exact h2.2
      simp [hg _ this]
  · have : groupB (cutS s retryC) = true := by unfold hitS at h1; simp at h1; exact h1.2
    simp [hg _ this]

set_option maxHeartbeats 1000000 in
theorem rTopic_any (s : ByteArray) (w : World) (hs : s.size ≤ maxLen) :
    Calls Try.prog 22 #[.string s] w fun e w' => e = .returned (.bool (topicB s)) ∧ w = w' := by
  have hi := isEmpty_iff (ofG s)
  have ho := ofOk_iff s
  cases hp : plainB s
  · have hg := box (show topicB s = !(ofG s).toList.isEmpty by unfold topicB; rw [hp, hi, Bool.or_false, ho])
    clear hi ho
    obtain ⟨g, hgg⟩ : ∃ g, ofG s = g := ⟨_, rfl⟩
    have hc := fun W => rOf_any s W hs
    rw [hgg] at hg
    simp only [hgg] at hc
    have Hc := box hc
    clear hc hgg
    go_enter Try.func22, Try.ntmps22
    go_wp2_with (first | (go_at_call 19; refine (rPlain_any _ _ hs).mono ?_; rintro e w' ⟨rfl, rfl⟩) | (go_at_call 27; refine (Hc.out _).mono ?_; rintro e w' ⟨rfl, rfl⟩))
    go_ret
    exact ⟨ret_bool (by rw [hg.out]), rfl⟩
  · have hg := box (show topicB s = true by unfold topicB; rw [hp]; simp)
    clear hi ho
    go_enter Try.func22, Try.ntmps22
    go_wp2_with (first | (go_at_call 19; refine (rPlain_any _ _ hs).mono ?_; rintro e w' ⟨rfl, rfl⟩) )
    go_ret
    exact ⟨ret_bool (by rw [hg.out]), rfl⟩

/-! ### All -/
theorem allP_snoc (l : List ByteArray) (k : Nat) (hk : k < l.length) (p : ByteArray → Bool) : (l.take (k + 1)).all p = ((l.take k).all p && p (l.getD k ByteArray.empty)) := by
  rw [List.take_succ_eq_append_getElem hk, List.all_append]; simp [List.getD_eq_getElem?_getD, List.getElem?_eq_getElem hk]
theorem allP_no (l : List ByteArray) (k : Nat) (hk : k < l.length) (p : ByteArray → Bool) (h : p (l.getD k ByteArray.empty) = false) : l.all p = false := by
  rw [List.all_eq_false]
  exact ⟨l[k], List.getElem_mem _, by simpa [List.getD_eq_getElem?_getD, List.getElem?_eq_getElem hk] using h⟩

set_option maxHeartbeats 1000000 in
theorem AllPlain_any (v : Value) (l : List ByteArray) (w : World) (hv : StrsAt w v l) (hl : l.length ≤ 4294967296) :
    Calls Try.prog 29 #[.func (.func 16) #[] #[], v] w fun e w' => e = .returned (.bool (l.all plainB)) ∧ Calm w w' := by
  rcases hv with ⟨rfl, a, cap, rfl⟩ | ⟨b, off, cap, rfl, hc⟩
  · go_enter Try.func29, Try.ntmps29
    go_wp2
    refine wp_loop_rounds 1 ?_
    rw [rounds_succ]
    go_wp2
    go_ret
    exact ⟨rfl, Calm.refl _⟩
  · have hlt : ∀ k, k < l.length → b < w.heap.size := fun k hk => by
      have h1 := hc k hk
      unfold World.cell? at h1
      by_cases hb : b < w.heap.size
      · exact hb
      · simp [Array.getElem?_eq_none (Nat.le_of_not_lt hb)] at h1
    have Hc := box hc
    have Hlt := box hlt
    clear hc hlt
    go_enter Try.func29, Try.ntmps29
    go_wp2
    go_loopw [9] (fun i wr => ∃ k : Nat, k ≤ l.length ∧ i = .int .i64 k ∧ (l.take k).all plainB = true ∧ Calm w wr) (fun i _ => l.length - (intOf i).toNat)
    case atStart => exact ⟨0, Nat.zero_le _, rfl, rfl, Calm.refl _⟩
    case round =>
      obtain ⟨k, hk, rfl, hall, hcalm⟩ := hrel
      have Hall := box hall
      clear hall
      by_cases hlt : k < l.length
      · have hcell : wr.cell? ⟨b, off + k, none⟩ = some (.string (l.getD k ByteArray.empty)) := by
          rw [hcalm.cell (p := ⟨b, off + k, none⟩) (Hlt.out k hlt)]; exact Hc.out k hlt
        have hsn := box (allP_snoc l k hlt plainB)
        have hno := box (allP_no l k hlt plainB)
        obtain ⟨s, hs⟩ : ∃ s, l.getD k ByteArray.empty = s := ⟨_, rfl⟩
        rw [hs] at hcell hsn hno
        clear hs
        have hq : ∀ W, Sem.run Try.prog (binOp BinOp.eql 29 (Value.func (Fn.func 16) #[] #[]) Value.nilFunc) W = Result.ok (Value.bool false) W := fun W => by kernel_rfl
        cases hp : plainB s
        · go_wp2_with (first | (go_at_call 16; refine (Plain_any _ _).mono ?_; rintro e w' ⟨rfl, hb⟩))
          go_ret
          refine ⟨ret_bool (by rw [hno.out hp]), ?_⟩
          (repeat' (first | (with_reducible exact Calm.refl _) | (with_reducible assumption) | (with_reducible refine Calm.drew ?_) | (with_reducible refine Calm.alloc ?_ _) | (with_reducible refine Calm.trans ?_ (by assumption))))
        · go_wp2_with (first | (go_at_call 16; refine (Plain_any _ _).mono ?_; rintro e w' ⟨rfl, hb⟩))
          go_roundw
          case rel =>
            refine ⟨k + 1, by omega, by go_num, by rw [hsn.out, Hall.out, hp]; rfl, ?_⟩
            (repeat' (first | (with_reducible exact Calm.refl _) | (with_reducible assumption) | (with_reducible refine Calm.drew ?_) | (with_reducible refine Calm.alloc ?_ _) | (with_reducible refine Calm.trans ?_ (by assumption))))
          case measure => simp [intOf]; omega
      · obtain rfl : k = l.length := by omega
        have hfin := box (show l.all plainB = true by have := Hall.out; rwa [List.take_length] at this)
        go_wp2
        go_ret
        exact ⟨ret_bool (by rw [hfin.out]), by assumption⟩

theorem AllNil_any (v : Value) (l : List ByteArray) (w : World) (hv : StrsAt w v l) (hl : l.length ≤ 4294967296) :
    Calls Try.prog 29 #[.nilFunc, v] w fun e w' => e = .returned (.bool (decide (l = []))) ∧ w = w' := by
  rcases hv with ⟨rfl, a, cap, rfl⟩ | ⟨b, off, cap, rfl, hc⟩
  · go_enter Try.func29, Try.ntmps29
    go_wp2
    refine wp_loop_rounds 1 ?_
    rw [rounds_succ]
    go_wp2
    go_ret
    exact ⟨rfl, rfl⟩
  · by_cases h0 : l = []
    · subst h0
      clear hc
      go_enter Try.func29, Try.ntmps29
      go_wp2
      refine wp_loop_rounds 1 ?_
      rw [rounds_succ]
      go_wp2
      go_ret
      exact ⟨rfl, rfl⟩
    · have h1 : 0 < l.length := List.length_pos_iff.2 h0
      have hcell := hc 0 h1
      have hd := box (show decide (l = []) = false by simp [h0])
      clear hc h0
      rw [Nat.add_zero] at hcell
      have hq : ∀ W, Sem.run Try.prog (binOp BinOp.eql 29 Value.nilFunc Value.nilFunc) W = Result.ok (Value.bool true) W := fun W => by kernel_rfl
      go_enter Try.func29, Try.ntmps29
      go_wp2
      refine wp_loop_rounds 1 ?_
      rw [rounds_succ]
      go_wp2
      go_ret
      exact ⟨ret_bool (by rw [hd.out]), rfl⟩

end Go.Proofs.Ytiiaaigijndgfaa.nm
