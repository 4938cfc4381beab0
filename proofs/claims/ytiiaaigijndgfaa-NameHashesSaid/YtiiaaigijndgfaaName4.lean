/- The contracts of package name and of reveilleref03, continued. -/
import Derived.Test.YtiiaaigijndgfaaName3
namespace Go.Proofs.Ytiiaaigijndgfaa.nm
open Go.ChangeShapes Go.WideShapes Go.ChangeAt Go.RowKit

theorem rGroup_any (s : ByteArray) (w : World) (hs : s.size ≤ maxLen) :
    Calls Try.prog 20 #[.string s] w fun e w' => e = .returned (.bool (groupB s)) ∧ w = w' := by
  cases hp : plainB s
  · have hg : groupB s = false := by unfold groupB groupL; rw [show plainL s.data.toList = false from hp]; rfl
    rw [hg]
    clear hg
    go_enter Try.func20, Try.ntmps20
    go_wp2_with (go_at_call 19; refine (rPlain_any _ _ hs).mono ?_; rintro e w' ⟨rfl, rfl⟩)
    go_ret
    exact ⟨rfl, rfl⟩
  · have hg : groupB s = decide ((s.size : Int) ≤ 8) := by
      unfold groupB groupL; rw [show plainL s.data.toList = true from hp]; simp; omega
    rw [hg]
    clear hg
    go_enter Try.func20, Try.ntmps20
    go_wp2_with (go_at_call 19; refine (rPlain_any _ _ hs).mono ?_; rintro e w' ⟨rfl, rfl⟩)
    go_ret
    exact ⟨rfl, rfl⟩

theorem rTag_any (s : ByteArray) (w : World) (hs : s.size ≤ maxLen) :
    Calls Try.prog 24 #[.string s] w fun e w' => e = .returned (.bool (tagB s)) ∧ w = w' := by
  have hi := isEmpty_iff s
  by_cases h0 : s.size = 0
  · have hg : tagB s = true := by unfold tagB; simp [h0]
    have h1 : s.toList = [] := by rw [Lib.toList_data]; exact List.eq_nil_of_length_eq_zero (by simpa using h0)
    rw [hg]
    clear hg hi h0
    go_enter Try.func24, Try.ntmps24
    go_wp2_with (go_at_call 19; refine (rPlain_any _ _ hs).mono ?_; rintro e w' ⟨rfl, rfl⟩)
    go_ret
    exact ⟨rfl, rfl⟩
  · have hg : tagB s = plainB s := by unfold tagB; simp [h0]
    have h1 : s.toList.isEmpty = false := by rw [hi]; simp [h0]
    rw [hg]
    clear hg hi h0
    go_enter Try.func24, Try.ntmps24
    go_wp2_with (go_at_call 19; refine (rPlain_any _ _ hs).mono ?_; rintro e w' ⟨rfl, rfl⟩)
    go_ret
    exact ⟨ret_bool (by simp), rfl⟩

theorem rKey_any (s : ByteArray) (w : World) (hs : s.size ≤ maxLen) :
    Calls Try.prog 26 #[.string s] w fun e w' => e = .returned (.bool (keyB s)) ∧ w = w' := by
  unfold maxLen at hs
  go_enter Try.func26, Try.ntmps26
  go_wp2
  go_loop [3] (fun i => ∃ k : Nat, k ≤ s.size ∧ i = .int .i64 k ∧ (s.data.toList.take k).all (fun c => keyN c.toNat) = true) (fun i => s.size - (intOf i).toNat)
  case atStart => exact ⟨0, Nat.zero_le _, rfl, rfl⟩
  case round =>
    obtain ⟨k, hk, rfl, hall⟩ := hrel
    have Hall := box hall
    clear hall
    by_cases hlt : k < s.size
    · by_cases hb : 33 ≤ (s[k].toNat : Int) ∧ (s[k].toNat : Int) ≤ 126
      · have hn : keyN s[k].toNat = true := by simp [keyN]; omega
        have hs := box (all_snoc s k hlt (fun c => keyN c.toNat))
        obtain ⟨hb1, hb2⟩ := hb
        have Hn := box hn
        clear hn
        go_wp2
        go_round
        case rel => exact ⟨k + 1, by omega, by go_num, by rw [hs.out, Hall.out, Bool.true_and]; exact Hn.out⟩
        case measure => simp [intOf]; omega
      · have hn := box (show keyB s = false by unfold keyB keyL; rw [all_no s k hlt (fun c => keyN c.toNat) (by simp [keyN]; omega)]; simp)
        by_cases hb1 : (s[k].toNat : Int) < 33
        · go_wp2
          go_ret
          exact ⟨ret_bool (by rw [hn.out]), rfl⟩
        · have hb2 : 126 < (s[k].toNat : Int) := by omega
          go_wp2
          go_ret
          exact ⟨ret_bool (by rw [hn.out]), rfl⟩
    · have hn := box (all_take s k (by omega) (fun c => keyN c.toNat))
      by_cases h1 : 1 ≤ (s.size : Int)
      · have hp := box (show keyB s = decide ((s.size : Int) ≤ 16) by unfold keyB keyL; rw [← hn.out, Hall.out, size_toList, Bool.and_true, decide_eq_true (by omega : 1 ≤ s.size), Bool.true_and]; exact decide_eq_decide.2 (by omega))
        go_wp2
        go_ret
        exact ⟨ret_bool (by rw [hp.out]), rfl⟩
      · have hp := box (show keyB s = false by unfold keyB keyL; rw [size_toList, decide_eq_false (by omega : ¬ 1 ≤ s.size)]; rfl)
        go_wp2
        go_ret
        exact ⟨ret_bool (by rw [hp.out]), rfl⟩

theorem rHash_any (s : ByteArray) (w : World) (hs : s.size ≤ maxLen) :
    Calls Try.prog 28 #[.string s] w fun e w' => e = .returned (.int .i64 (hashL s.data.toList)) ∧ w = w' := by
  unfold maxLen at hs
  go_enter Try.func28, Try.ntmps28
  go_wp2
  go_loop [3, 4] (fun h i => ∃ k : Nat, k ≤ s.size ∧ i = .int .i64 k ∧ h = .int .i64 (hashL (s.data.toList.take k))) (fun _ i => s.size - (intOf i).toNat)
  case atStart => exact ⟨0, Nat.zero_le _, rfl, rfl⟩
  case round =>
    obtain ⟨k, hk, rfl, rfl⟩ := hrel
    have hb : hashL (s.data.toList.take k) < 4294967296 := hashFrom_lt 0 (by omega) (s.data.toList.take k)
    by_cases hlt : k < s.size
    · have hsn := box (show hashL (s.data.toList.take (k + 1)) = _ from hashFrom_snoc 0 s k hlt)
      obtain ⟨h1, hh1⟩ : ∃ h1, hashL (s.data.toList.take k) = h1 := ⟨_, rfl⟩
      have hsn' := box (show hashL (s.data.toList.take (k + 1)) = (31 * h1 + (s[k]).toNat) % 4294967296 by rw [hsn.out, ← hh1]; rfl)
      rw [hh1] at hb ⊢
      clear hh1 hsn
      have hby : (s[k].toNat : Int) < 256 := by have := UInt8.toNat_lt s[k]; omega
      have hb' : (h1 : Int) < 4294967296 := by omega
      go_wp2
      go_round
      case rel => exact ⟨k + 1, by omega, by go_num, by rw [hsn'.out]; exact val_int (by omega)⟩
      case measure => simp [intOf]; omega
    · obtain rfl : k = s.size := by omega
      have he := box (show hashL (s.data.toList.take s.size) = hashL s.data.toList by rw [List.take_of_length_le (by simp)])
      go_wp2
      go_ret
      exact ⟨ret_int (by rw [he.out]), rfl⟩

theorem rHas_any (s h : ByteArray) (w : World) (hs : s.size ≤ maxLen) (hh : h.size ≤ 100) :
    Calls Try.prog 36 #[.string s, .string h] w fun e w' => e = .returned (.bool (hasS s h)) ∧ w = w' := by
  unfold maxLen at hs
  have hr := Lib.hasPrefix_raw s h
  by_cases h1 : h.size ≤ s.size
  · have hp := box (show hasS s h = ((s.extract 0 h.size).toList == h.toList) by unfold hasS; rw [← hr]; simp [h1])
    clear hr
    go_enter Try.func36, Try.ntmps36
    go_wp2
    go_ret
    exact ⟨ret_bool (by rw [hp.out]), rfl⟩
  · have hp := box (show hasS s h = false by unfold hasS; rw [← hr]; simp [h1])
    clear hr
    go_enter Try.func36, Try.ntmps36
    go_wp2
    go_ret
    exact ⟨ret_bool (by rw [hp.out]), rfl⟩

end Go.Proofs.Ytiiaaigijndgfaa.nm
