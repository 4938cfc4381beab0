/- Layer 4: Contains over a crash's marks. -/
import Derived.Test.YtbmhjojlbmbpkaaDiskH
namespace Go.Proofs.Ytbmhjojlbmbpkaa.dk
open Go.ChangeShapes Go.WideShapes Go.ChangeAt Go.RowKit

/-- Marks lie under a slice's address. -/
def BoolsAt (w : World) (a : Option Addr) (l : List Bool) : Prop :=
  ∀ k (hk : k < l.length), ∃ b off, a = some ⟨b, off, none⟩ ∧ w.cell? ⟨b, off + k, none⟩ = some (.bool l[k])
theorem BoolsAt.calm {w w' : World} {a : Option Addr} {l : List Bool} (h : BoolsAt w a l) (hc : Calm w w') : BoolsAt w' a l := fun k hk => by
  obtain ⟨b, off, rfl, hcell⟩ := h k hk
  exact ⟨b, off, rfl, by rw [hc.cell (p := ⟨b, off + k, none⟩) (World.block_lt_of_cell? w _ hcell)]; exact hcell⟩
theorem BoolsAt.take {w : World} {a : Option Addr} {l : List Bool} (h : BoolsAt w a l) (m : Nat) : BoolsAt w a (l.take m) := fun k hk => by
  obtain ⟨b, off, rfl, hcell⟩ := h k (by simp at hk; omega)
  exact ⟨b, off, rfl, by rw [hcell, List.getElem_take]⟩
theorem BoolsAt.drop {w : World} {b off : Nat} {l : List Bool} (h : BoolsAt w (some ⟨b, off, none⟩) l) (m : Nat) : BoolsAt w (some ⟨b, off + m, none⟩) (l.drop m) := fun k hk => by
  obtain ⟨b', off', e, hcell⟩ := h (m + k) (by simp at hk; omega)
  cases e
  exact ⟨b, off + m, rfl, by rw [Nat.add_assoc, hcell, List.getElem_drop]⟩

def idxB (l : List Bool) : Int := match l.findIdx? (fun x => x) with | some k => k | none => -1
theorem idxB_contains (l : List Bool) : decide (0 ≤ idxB l) = l.contains true := by
  unfold idxB
  cases h : l.findIdx? (fun x => x) with
  | none =>
    rw [List.findIdx?_eq_none_iff] at h
    have : l.contains true = false := by
      rw [← Bool.not_eq_true, List.contains_iff_mem]
      intro hm; have := h true hm; simp at this
    rw [this]; rfl
  | some k =>
    rw [List.findIdx?_eq_some_iff_getElem] at h
    obtain ⟨hk, h1, _⟩ := h
    have : l.contains true = true := by
      rw [List.contains_iff_mem, ← h1]; exact List.getElem_mem _
    rw [this]; exact decide_eq_true (Int.natCast_nonneg k)
theorem idxB_snoc (l : List Bool) (k : Nat) (hk : k < l.length) (h : (l.take k).findIdx? (fun x => x) = none) :
    (l[k] = true → idxB l = k) ∧ (l[k] = false → (l.take (k + 1)).findIdx? (fun x => x) = none) := by
  rw [List.findIdx?_eq_none_iff] at h
  constructor
  · intro he
    have : l.findIdx? (fun x => x) = some k := by
      rw [List.findIdx?_eq_some_iff_getElem]
      refine ⟨hk, he, fun j hj => ?_⟩
      have := h l[j] (by rw [List.mem_take_iff_getElem]; exact ⟨j, by omega, rfl⟩)
      simpa using this
    unfold idxB; rw [this]
  · intro he
    rw [List.findIdx?_eq_none_iff, List.take_succ_eq_append_getElem hk]
    intro x hx
    rcases List.mem_append.1 hx with hx | hx
    · exact h x hx
    · rw [List.mem_singleton] at hx; subst hx; exact he

set_option maxRecDepth 100000 in
set_option maxHeartbeats 2000000 in
theorem IndexB_any (a : Option Addr) (cap : Nat) (l : List Bool) (w : World) (h : BoolsAt w a l) (hl : l.length ≤ 4294967296) :
    Calls Try.prog 62 #[.slice a l.length cap, .bool true] w fun e w' => e = .returned (.int .i64 (idxB l)) ∧ w = w' := by
  have H := box h
  clear h
  go_enter Try.func62, Try.ntmps62
  go_wp2
  go_loop [8] (fun i => ∃ k : Nat, k ≤ l.length ∧ i = .int .i64 k ∧ (l.take k).findIdx? (fun x => x) = none) (fun i => l.length - (intOf i).toNat)
  case atStart => exact ⟨0, Nat.zero_le _, rfl, rfl⟩
  case round =>
    obtain ⟨k, hk, rfl, hno⟩ := hrel
    have Hno := box hno
    clear hno
    by_cases hlt : k < l.length
    · obtain ⟨b, off, rfl, hcell⟩ := H.out k hlt
      have hsn := box (idxB_snoc l k hlt)
      obtain ⟨x, hx⟩ : ∃ x, l[k] = x := ⟨_, rfl⟩
      rw [hx] at hcell hsn
      clear hx
      cases x
      · have hn := box ((hsn.out Hno.out).2 rfl)
        go_wp2
        go_round
        case rel => exact ⟨k + 1, by omega, by go_num, hn.out⟩
        case measure => simp [intOf]; omega
      · have hn := box ((hsn.out Hno.out).1 rfl)
        go_wp2
        go_ret
        exact ⟨ret_int (by rw [hn.out]), rfl⟩
    · obtain rfl : k = l.length := by omega
      have hn := box (show idxB l = -1 by have := Hno.out; rw [List.take_length] at this; unfold idxB; rw [this])
      go_wp2
      go_ret
      exact ⟨ret_int (by rw [hn.out]), rfl⟩

theorem ContainsB_any (a : Option Addr) (cap : Nat) (l : List Bool) (w : World) (h : BoolsAt w a l) (hl : l.length ≤ 4294967296) :
    Calls Try.prog 44 #[.slice a l.length cap, .bool true] w fun e w' => e = .returned (.bool (l.contains true)) ∧ w = w' := by
  have hi := box (IndexB_any a cap l w h hl)
  have hb := box (idxB_contains l)
  clear h
  go_enter Try.func44, Try.ntmps44
  go_wp2_with fail
  refine hi.out.mono ?_
  rintro e w' ⟨rfl, rfl⟩
  go_wp2_with fail
  go_ret
  exact ⟨ret_bool hb.out, rfl⟩

end Go.Proofs.Ytbmhjojlbmbpkaa.dk
