/- The contracts of package name and of reveilleref03, continued. -/
import Derived.Test.YtiiaaigijndgfaaName2
namespace Go.Proofs.Ytiiaaigijndgfaa.nm
open Go.ChangeShapes Go.WideShapes Go.ChangeAt Go.RowKit

def topicB (s : ByteArray) : Bool := ofOk s || plainB s
def tagB (s : ByteArray) : Bool := decide (s.size = 0) || plainB s
def keyN (c : Nat) : Bool := decide (33 ≤ c) && decide (c ≤ 126)
def keyL (l : List UInt8) : Bool := decide (1 ≤ l.length) && decide (l.length ≤ 16) && l.all (fun c => keyN c.toNat)
def keyB (s : ByteArray) : Bool := keyL s.data.toList

theorem isEmpty_iff (s : ByteArray) : s.toList.isEmpty = decide (s.size = 0) := by
  rw [Lib.toList_data, Bool.eq_iff_iff, List.isEmpty_iff, decide_eq_true_iff, ← size_toList, List.length_eq_zero_iff]

set_option maxHeartbeats 1000000 in
theorem Topic_any (s : ByteArray) (w : World) :
    Calls Try.prog 21 #[.string s] w fun e w' => e = .returned (.bool (topicB s)) ∧ Calm w w' := by
  cases hp : ofOk s
  · have hg : topicB s = plainB s := by unfold topicB; rw [hp]; rfl
    rw [hg]
    clear hg
    go_enter Try.func21, Try.ntmps21
    go_wp2_with (first | (go_at_call 18; refine (Of_any _ _).mono ?_; rintro e w' ⟨rfl, hb⟩) | (go_at_call 16; refine (Plain_any _ _).mono ?_; rintro e w' ⟨rfl, hb⟩))
    go_ret
    refine ⟨ret_bool (by simp), ?_⟩
    (repeat' (first | (with_reducible exact Calm.refl _) | (with_reducible assumption) | (with_reducible refine Calm.drew ?_) | (with_reducible refine Calm.alloc ?_ _) | (with_reducible refine Calm.trans ?_ (by assumption))))
  · have hg : topicB s = true := by unfold topicB; rw [hp]; rfl
    rw [hg]
    clear hg
    go_enter Try.func21, Try.ntmps21
    go_wp2_with (first | (go_at_call 18; refine (Of_any _ _).mono ?_; rintro e w' ⟨rfl, hb⟩) | (go_at_call 16; refine (Plain_any _ _).mono ?_; rintro e w' ⟨rfl, hb⟩))
    go_ret
    refine ⟨ret_bool (by simp), ?_⟩
    (repeat' (first | (with_reducible exact Calm.refl _) | (with_reducible assumption) | (with_reducible refine Calm.drew ?_) | (with_reducible refine Calm.alloc ?_ _) | (with_reducible refine Calm.trans ?_ (by assumption))))

set_option maxHeartbeats 1000000 in
theorem Tag_any (s : ByteArray) (w : World) :
    Calls Try.prog 23 #[.string s] w fun e w' => e = .returned (.bool (tagB s)) ∧ Calm w w' := by
  have hi := isEmpty_iff s
  by_cases h0 : s.size = 0
  · have hg : tagB s = true := by unfold tagB; simp [h0]
    have h1 : s.toList = [] := by rw [Lib.toList_data]; exact List.eq_nil_of_length_eq_zero (by simpa using h0)
    rw [hg]
    clear hg hi h0
    go_enter Try.func23, Try.ntmps23
    go_wp2_with (first | (go_at_call 16; refine (Plain_any _ _).mono ?_; rintro e w' ⟨rfl, hb⟩))
    go_ret
    refine ⟨ret_bool (by simp), ?_⟩
    (repeat' (first | (with_reducible exact Calm.refl _) | (with_reducible assumption) | (with_reducible refine Calm.drew ?_) | (with_reducible refine Calm.alloc ?_ _) | (with_reducible refine Calm.trans ?_ (by assumption))))
  · have hg : tagB s = plainB s := by unfold tagB; simp [h0]
    have h1 : s.toList.isEmpty = false := by rw [hi]; simp [h0]
    rw [hg]
    clear hg hi h0
    go_enter Try.func23, Try.ntmps23
    go_wp2_with (first | (go_at_call 16; refine (Plain_any _ _).mono ?_; rintro e w' ⟨rfl, hb⟩))
    go_ret
    refine ⟨ret_bool (by simp), ?_⟩
    (repeat' (first | (with_reducible exact Calm.refl _) | (with_reducible assumption) | (with_reducible refine Calm.drew ?_) | (with_reducible refine Calm.alloc ?_ _) | (with_reducible refine Calm.trans ?_ (by assumption))))

set_option maxHeartbeats 1000000 in
theorem Key_any (s : ByteArray) (w : World) (hs : s.size ≤ maxLen) :
    Calls Try.prog 25 #[.string s] w fun e w' => e = .returned (.bool (keyB s)) ∧ w = w' := by
  unfold maxLen at hs
  have hi := isEmpty_iff s
  by_cases h0 : s.size = 0
  · have hg : keyB s = false := by unfold keyB keyL; simp [h0]
    have h1 : s.toList = [] := by rw [Lib.toList_data]; exact List.eq_nil_of_length_eq_zero (by simpa using h0)
    rw [hg]
    clear hg hi h0
    go_enter Try.func25, Try.ntmps25
    go_wp2
    go_ret
    exact ⟨rfl, rfl⟩
  · have h1 : s.toList.isEmpty = false := by rw [hi]; simp [h0]
    clear hi
    by_cases h2 : 16 < s.size
    · have hg : keyB s = false := by unfold keyB keyL; simp; omega
      rw [hg]
      clear hg
      go_enter Try.func25, Try.ntmps25
      go_wp2
      go_ret
      exact ⟨rfl, rfl⟩
    · have hg := box (show keyB s = s.data.toList.all (fun c => keyN c.toNat) by unfold keyB keyL; simp; omega)
      go_enter Try.func25, Try.ntmps25
      go_wp2
      go_loop [13] (fun i => ∃ k : Nat, k ≤ s.size ∧ i = .int .i64 k ∧ (s.data.toList.take k).all (fun c => keyN c.toNat) = true) (fun i => s.size - (intOf i).toNat)
      case atStart => exact ⟨0, Nat.zero_le _, rfl, rfl⟩
      case round =>
        obtain ⟨k, hk, rfl, hall⟩ := hrel
        have Hall := box hall
        clear hall
        by_cases hlt : k < s.size
        · by_cases hb : 33 ≤ (s[k].toNat : Int) ∧ (s[k].toNat : Int) ≤ 126
          · have hn : keyN s[k].toNat = true := by simp [keyN]; omega
            have hs := box (all_snoc s k hlt (fun c => keyN c.toNat))
            obtain ⟨hb1, hb2⟩ := hb
            have Hn := box hn
            clear hn
            go_wp2
            go_round
            case rel => exact ⟨k + 1, by omega, by go_num, by rw [hs.out, Hall.out, Bool.true_and]; exact Hn.out⟩
            case measure => simp [intOf]; omega
          · have hn := box (all_no s k hlt (fun c => keyN c.toNat) (by simp [keyN]; omega))
            by_cases hb1 : (s[k].toNat : Int) < 33
            · go_wp2
              go_ret
              exact ⟨ret_bool (by rw [hg.out, hn.out]), rfl⟩
            · have hb2 : 126 < (s[k].toNat : Int) := by omega
              go_wp2
              go_ret
              exact ⟨ret_bool (by rw [hg.out, hn.out]), rfl⟩
        · have hn := box (all_take s k (by omega) (fun c => keyN c.toNat))
          go_wp2
          go_ret
          exact ⟨ret_bool (by rw [hg.out, ← hn.out, Hall.out]), rfl⟩

/-! ### package reveilleref03 -/
theorem rSign (c : UInt8) (h : (97 ≤ (c.toNat : Int) ∧ (c.toNat : Int) ≤ 122) ∨ (48 ≤ (c.toNat : Int) ∧ (c.toNat : Int) ≤ 57) ∨ (c.toNat : Int) = 45) : signB c = true := sign_true (by omega)
theorem rSign' (c : UInt8) (h : ¬ ((97 ≤ (c.toNat : Int) ∧ (c.toNat : Int) ≤ 122) ∨ (48 ≤ (c.toNat : Int) ∧ (c.toNat : Int) ≤ 57) ∨ (c.toNat : Int) = 45)) : signB c = false := sign_false (by omega)

set_option maxHeartbeats 1000000 in
theorem rPlain_any (s : ByteArray) (w : World) (hs : s.size ≤ maxLen) :
    Calls Try.prog 19 #[.string s] w fun e w' => e = .returned (.bool (plainB s)) ∧ w = w' := by
  unfold maxLen at hs
  go_enter Try.func19, Try.ntmps19
  go_wp2
  go_loop [3] (fun i => ∃ k : Nat, k ≤ s.size ∧ i = .int .i64 k ∧ (s.data.toList.take k).all signB = true) (fun i => s.size - (intOf i).toNat)
  case atStart => exact ⟨0, Nat.zero_le _, rfl, rfl⟩
  case round =>
    obtain ⟨k, hk, rfl, hall⟩ := hrel
    have Hall := box hall
    clear hall
    by_cases hlt : k < s.size
    · by_cases hc : (97 ≤ (s[k].toNat : Int) ∧ (s[k].toNat : Int) ≤ 122) ∨ (48 ≤ (s[k].toNat : Int) ∧ (s[k].toNat : Int) ≤ 57) ∨ (s[k].toNat : Int) = 45
      · have fin := box (show (s.data.toList.take (k + 1)).all signB = true by rw [all_snoc s k hlt signB, Hall.out, Bool.true_and]; exact rSign _ hc)
        rcases hc with ⟨c1, c2⟩ | ⟨c1, c2⟩ | c1
        · go_wp2
          go_round
          case rel => exact ⟨k + 1, by omega, by go_num, fin.out⟩
          case measure => simp [intOf]; omega
        · go_wp2
          go_round
          case rel => exact ⟨k + 1, by omega, by go_num, fin.out⟩
          case measure => simp [intOf]; omega
        · have c2 : ((s[k].toNat : Int) != 45) = false := by simp [c1]
          have C1 := box c1
          have c3 : (s[k].toNat : Int) ≤ 45 := by omega
          have c4 : 45 ≤ (s[k].toNat : Int) := by omega
          clear c1
          go_wp2
          go_round
          case rel => exact ⟨k + 1, by omega, by go_num, fin.out⟩
          case measure => simp [intOf]; omega
      · have fin := box (show plainB s = false by unfold plainB plainL; rw [all_no s k hlt signB (rSign' _ hc)]; simp)
        have c2 : ((s[k].toNat : Int) != 45) = true := by rw [bne_iff_ne]; omega
        go_wp2
        all_goals
          first
            | (go_ret; exact ⟨ret_bool (by rw [fin.out]), rfl⟩)
            | (exfalso; simp at *; omega)
    · have hn := box (all_take s k (by omega) signB)
      by_cases h1 : 1 ≤ (s.size : Int)
      · have hp := box (show plainB s = decide ((s.size : Int) ≤ 16) by unfold plainB plainL; rw [← hn.out, Hall.out, size_toList, Bool.and_true, decide_eq_true (by omega : 1 ≤ s.size), Bool.true_and]; exact decide_eq_decide.2 (by omega))
        go_wp2
        go_ret
        exact ⟨ret_bool (by rw [hp.out]), rfl⟩
      · have hp := box (plain_empty s (by omega))
        go_wp2
        go_ret
        exact ⟨ret_bool (by rw [hp.out]), rfl⟩

end Go.Proofs.Ytiiaaigijndgfaa.nm
