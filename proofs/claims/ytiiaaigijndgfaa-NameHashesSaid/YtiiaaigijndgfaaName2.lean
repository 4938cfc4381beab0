/- The contracts of package name and of reveilleref03, continued: hashes, keys, tags, topics. -/
import Derived.Test.YtiiaaigijndgfaaName
namespace Go.Proofs.Ytiiaaigijndgfaa.nm
open Go.ChangeShapes Go.WideShapes Go.ChangeAt Go.RowKit

def hashFrom (h : Nat) (l : List UInt8) : Nat := l.foldl (fun h c => (31 * h + c.toNat) % 4294967296) h
def hashL (l : List UInt8) : Nat := hashFrom 0 l
def flatS (l : List ByteArray) : List UInt8 := (l.map (·.data.toList)).flatten
theorem hashFrom_lt (h : Nat) (hh : h < 4294967296) (l : List UInt8) : hashFrom h l < 4294967296 := by
  induction l generalizing h with
  | nil => exact hh
  | cons c l ih => exact ih _ (Nat.mod_lt _ (by omega))
theorem hashFrom_append (h : Nat) (a b : List UInt8) : hashFrom h (a ++ b) = hashFrom (hashFrom h a) b := by simp [hashFrom]
theorem hashFrom_snoc (h : Nat) (s : ByteArray) (k : Nat) (hk : k < s.size) : hashFrom h (s.data.toList.take (k + 1)) = (31 * hashFrom h (s.data.toList.take k) + (s[k]).toNat) % 4294967296 := by
  rw [List.take_succ_eq_append_getElem (by simpa using hk), hashFrom_append]; rfl
theorem flatS_snoc (l : List ByteArray) (k : Nat) (hk : k < l.length) : flatS (l.take (k + 1)) = flatS (l.take k) ++ (l.getD k ByteArray.empty).data.toList := by
  rw [List.take_succ_eq_append_getElem hk]; unfold flatS; rw [List.map_append, List.flatten_append]; simp [List.getD_eq_getElem?_getD, List.getElem?_eq_getElem hk]

set_option maxHeartbeats 1000000 in
theorem Hash_any (v : Value) (l : List ByteArray) (w : World) (hv : StrsAt w v l) (hl : l.length ≤ 4294967296) (hs : ∀ s ∈ l, s.size ≤ maxLen) :
    Calls Try.prog 17 #[v] w fun e w' => e = .returned (.int .i64 (hashL (flatS l))) ∧ w = w' := by
  unfold maxLen at hs
  rcases hv with ⟨rfl, a, cap, rfl⟩ | ⟨b, off, cap, rfl, hc⟩
  · clear hs hl
    go_enter Try.func17, Try.ntmps17
    go_wp2
    refine wp_loop_rounds 1 ?_
    rw [rounds_succ]
    go_wp2
    go_ret
    exact ⟨rfl, rfl⟩
  · have Hs := box hs
    have Hc := box hc
    clear hs hc
    go_enter Try.func17, Try.ntmps17
    go_wp2
    go_loop [9, 3] (fun i h => ∃ k : Nat, k ≤ l.length ∧ i = .int .i64 k ∧ h = .int .u32 (hashL (flatS (l.take k)))) (fun i _ => l.length - (intOf i).toNat)
    case atStart => exact ⟨0, Nat.zero_le _, rfl, rfl⟩
    case round =>
      obtain ⟨k, hk, rfl, rfl⟩ := hrel
      have hb := hashFrom_lt 0 (by omega) (flatS (l.take k))
      by_cases hlt : k < l.length
      · have hcell := Hc.out k hlt
        have hsz : (l.getD k ByteArray.empty).size ≤ 9223372036854775807 := Hs.out _ (by rw [List.getD_eq_getElem?_getD, List.getElem?_eq_getElem hlt]; exact List.getElem_mem _)
        obtain ⟨s, hs⟩ : ∃ s, l.getD k ByteArray.empty = s := ⟨_, rfl⟩
        have hfl := flatS_snoc l k hlt
        rw [hs] at hcell hsz hfl
        have Hfl := box hfl
        clear hfl hs
        obtain ⟨h0, hh⟩ : ∃ h0, hashL (flatS (l.take k)) = h0 := ⟨_, rfl⟩
        have hb' : h0 < 4294967296 := hh ▸ hb
        rw [hh]
        have Hh := box hh
        clear hh hb
        go_wp2
        go_loop [15, 3] (fun i h => ∃ j : Nat, j ≤ s.size ∧ i = .int .i64 j ∧ h = .int .u32 (hashFrom h0 (s.data.toList.take j))) (fun i _ => s.size - (intOf i).toNat)
        case atStart => exact ⟨0, Nat.zero_le _, rfl, rfl⟩
        case round =>
          obtain ⟨j, hj, rfl, rfl⟩ := hrel
          have hb2 := hashFrom_lt h0 hb' (s.data.toList.take j)
          by_cases hjl : j < s.size
          · have hsn := box (hashFrom_snoc h0 s j hjl)
            obtain ⟨h1, hh1⟩ : ∃ h1, hashFrom h0 (s.data.toList.take j) = h1 := ⟨_, rfl⟩
            rw [hh1] at hb2 hsn ⊢
            have Hh1 := box hh1
            clear hh1
            go_wp2
            go_round
            case rel => 
              refine ⟨j + 1, by omega, by go_num, ?_⟩
              rw [hsn.out]
              exact val_int (by omega)
            case measure => simp [intOf]; omega
          · obtain rfl : j = s.size := by omega
            rw [List.take_of_length_le (by simp)] at hb2 ⊢
            go_wp2
            go_round
            case rel =>
              refine ⟨k + 1, by omega, by go_num, ?_⟩
              rw [Hfl.out]; unfold hashL; rw [hashFrom_append, ← Hh.out]; rfl
            case measure => simp [intOf]; omega
      · obtain rfl : k = l.length := by omega
        rw [List.take_length] at hb ⊢
        have hb3 : hashL (flatS l) < 4294967296 := hb
        go_wp2
        go_ret
        exact ⟨ret_int (by omega), rfl⟩

end Go.Proofs.Ytiiaaigijndgfaa.nm
