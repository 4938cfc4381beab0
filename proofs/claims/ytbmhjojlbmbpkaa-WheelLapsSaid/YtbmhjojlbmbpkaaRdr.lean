/- Layer 1: a reader of bytes. -/
import Derived.Test.YtbmhjojlbmbpkaaOct
namespace Go.Proofs.Ytbmhjojlbmbpkaa.oc
open Go.ChangeShapes Go.WideShapes Go.ChangeAt Go.RowKit

/-- A reader: what is left, and its first error. -/
structure Rdr where
  s : ByteArray
  e : Int
def RdrAt (w : World) (b : Nat) (R : Rdr) : Prop := w.heap[b]? = some (.cells #[.string R.s, .int .i64 R.e] 123 (0, 0))
theorem RdrAt.calm {w w' : World} {b : Nat} {R : Rdr} (h : RdrAt w b R) (hc : Calm w w') : RdrAt w' b R := heap_calm hc h
theorem RdrAt.cells {w : World} {b : Nat} {R : Rdr} (h : RdrAt w b R) : w.cell? ⟨b, 0, none⟩ = some (.string R.s) ∧ w.cell? ⟨b, 1, none⟩ = some (.int .i64 R.e) ∧ w.frozen? ⟨b, 0, none⟩ = false ∧ w.frozen? ⟨b, 1, none⟩ = false ∧ b < w.heap.size :=
  ⟨cell_of h 0, cell_of h 1, free_of h 0, free_of h 1, heap_lt h⟩
theorem RdrAt.setE {w : World} {b : Nat} {R : Rdr} (h : RdrAt w b R) (e : Int) : RdrAt (w.setCell ⟨b, 1, none⟩ (.int .i64 e)) b ⟨R.s, e⟩ := by
  have := heap_set h 1 (.int .i64 e); exact this
theorem RdrAt.setS {w : World} {b : Nat} {R : Rdr} (h : RdrAt w b R) (s : ByteArray) : RdrAt (w.setCell ⟨b, 0, none⟩ (.string s)) b ⟨s, R.e⟩ := by
  have := heap_set h 0 (.string s); exact this

def Rdr.take (R : Rdr) (n : Int) : ByteArray × Rdr :=
  if R.e ≠ 0 then (⟨#[]⟩, R) else if n < 0 then (⟨#[]⟩, ⟨R.s, 1⟩) else if (R.s.size : Int) < n then (⟨#[]⟩, ⟨R.s, 3⟩) else (R.s.extract 0 n.toNat, ⟨R.s.extract n.toNat R.s.size, 0⟩)
/-- What a call of a reader leaves. -/
def RdrDone (v : Value) (b : Nat) (R : Rdr) (w : World) (e : Ending) (w' : World) : Prop := e = .returned v ∧ RdrAt w' b R ∧ Keeps (· = b) w w'

theorem New_any (s : ByteArray) (w : World) : Calls Try.prog 56 #[.string s] w fun e w' => ∃ b, w.heap.size ≤ b ∧ e = .returned (.pointer (some ⟨b, 0, none⟩)) ∧ RdrAt w' b ⟨s, 0⟩ ∧ Calm w w' := by
  have hn := box (heap_new w (.cells #[.string s, .int .i64 0] 123))
  go_enter Try.func56, Try.ntmps56
  go_wp2
  go_ret
  exact ⟨w.heap.size, Nat.le_refl _, rfl, hn.out, (Calm.refl w).alloc _⟩
theorem Err_any (b : Nat) (R : Rdr) (w : World) (h : RdrAt w b R) : Calls Try.prog 71 #[.pointer (some ⟨b, 0, none⟩)] w fun e w' => e = .returned (.int .i64 R.e) ∧ w = w' := by
  obtain ⟨c0, c1, f0, f1, hb⟩ := h.cells
  clear h
  go_enter Try.func71, Try.ntmps71
  go_wp2
  go_ret
  exact ⟨rfl, rfl⟩

set_option maxRecDepth 100000 in
set_option maxHeartbeats 2000000 in
theorem Take_any (b : Nat) (R : Rdr) (n : Int) (w : World) (h : RdrAt w b R) (hs : R.s.size ≤ 9223372036854775807) :
    Calls Try.prog 73 #[.pointer (some ⟨b, 0, none⟩), .int .i64 n] w (RdrDone (.string (R.take n).1) b (R.take n).2 w) := by
  obtain ⟨s, e⟩ := R
  obtain ⟨c0, c1, f0, f1, hb⟩ := h.cells
  have H := box h
  have HE := box (Err_any b ⟨s, e⟩ w h)
  clear h
  simp only at c0 c1 hs
  by_cases he : e = 0
  · subst he
    by_cases hn : n < 0
    · have hr := box (show Rdr.take ⟨s, 0⟩ n = (⟨#[]⟩, ⟨s, 1⟩) by unfold Rdr.take; rw [if_neg (fun h => h rfl), if_pos hn])
      rw [hr.out]
      go_enter Try.func73, Try.ntmps73
      go_wp2_with fail
      refine HE.out.mono ?_
      rintro e w' ⟨rfl, rfl⟩
      go_wp2_with fail
      go_ret
      exact ⟨rfl, H.out.setE 1, (Keeps.refl (fun x => x = b) w).setCell (p := ⟨b, 1, none⟩) (.inl rfl) _⟩
    · by_cases hl : (s.size : Int) < n
      · have hr := box (show Rdr.take ⟨s, 0⟩ n = (⟨#[]⟩, ⟨s, 3⟩) by unfold Rdr.take; rw [if_neg (fun h => h rfl), if_neg hn, if_pos hl])
        rw [hr.out]
        go_enter Try.func73, Try.ntmps73
        go_wp2_with fail
        refine HE.out.mono ?_
        rintro e w' ⟨rfl, rfl⟩
        go_wp2_with fail
        go_ret
        exact ⟨rfl, H.out.setE 3, (Keeps.refl (fun x => x = b) w).setCell (p := ⟨b, 1, none⟩) (.inl rfl) _⟩
      · have hr := box (show Rdr.take ⟨s, 0⟩ n = (s.extract 0 n.toNat, ⟨s.extract n.toNat s.size, 0⟩) by unfold Rdr.take; rw [if_neg (fun h => h rfl), if_neg hn, if_neg hl])
        rw [hr.out]
        obtain ⟨k, rfl⟩ : ∃ k : Nat, n = k := ⟨n.toNat, by omega⟩
        have hk : k ≤ s.size := by omega
        have b1 : decide ((k : Int) < 0) = false := decide_eq_false (by omega)
        have b2 : decide ((s.size : Int) < k) = false := decide_eq_false (by omega)
        have b3 : decide (s.size < k) = false := decide_eq_false (by omega)
        clear hn hl
        go_enter Try.func73, Try.ntmps73
        go_wp2_with fail
        refine HE.out.mono ?_
        rintro e w' ⟨rfl, rfl⟩
        go_wp2_with fail
        go_ret
        simp only [Int.toNat_natCast]
        exact ⟨rfl, H.out.setS _, (Keeps.refl (fun x => x = b) w).setCell (p := ⟨b, 0, none⟩) (.inl rfl) _⟩
  · have hr := box (show Rdr.take ⟨s, e⟩ n = (⟨#[]⟩, ⟨s, e⟩) by unfold Rdr.take; rw [if_pos he])
    rw [hr.out]
    have he' : (e == 0) = false := by rw [beq_eq_false_iff_ne]; exact he
    clear he
    go_enter Try.func73, Try.ntmps73
    go_wp2_with fail
    refine HE.out.mono ?_
    rintro e w' ⟨rfl, rfl⟩
    go_wp2_with fail
    go_ret
    exact ⟨rfl, H.out, .refl _ _⟩

def Rdr.num (R : Rdr) (n : Int) : Int × Rdr :=
  if R.e ≠ 0 then (0, R) else if n < 1 ∨ 7 < n then (0, ⟨R.s, 1⟩) else (((getN (R.take n).1.data.toList : Nat) : Int), (R.take n).2)
theorem take_size (R : Rdr) (n : Int) (h : n ≤ 7) : (R.take n).1.size ≤ 7 := by
  unfold Rdr.take
  split; exact Nat.zero_le _
  split; exact Nat.zero_le _
  split; exact Nat.zero_le _
  simp only [ByteArray.size_extract]; omega
set_option maxRecDepth 100000 in
set_option maxHeartbeats 2000000 in
theorem RNum_any (b : Nat) (R : Rdr) (n : Int) (w : World) (h : RdrAt w b R) (hs : R.s.size ≤ 9223372036854775807) :
    Calls Try.prog 57 #[.pointer (some ⟨b, 0, none⟩), .int .i64 n] w (RdrDone (.int .i64 (R.num n).1) b (R.num n).2 w) := by
  obtain ⟨c0, c1, f0, f1, hb⟩ := h.cells
  have H := box h
  have HE := box (Err_any b R w h)
  have HT := box (Take_any b R n w h hs)
  have hts := box (take_size R n)
  clear h
  by_cases he : R.e = 0
  · rw [he] at c1 HE
    by_cases hn : n < 1 ∨ 7 < n
    · have hr := box (show R.num n = (0, ⟨R.s, 1⟩) by unfold Rdr.num; rw [if_neg (by simpa using he), if_pos hn])
      rw [hr.out]
      clear he
      have hn' : n < 1 ∨ (1 ≤ n ∧ 7 < n) := by omega
      clear hn
      rcases hn' with h1 | ⟨h1, h2⟩
      all_goals
        go_enter Try.func57, Try.ntmps57
        go_wp2_with fail
        refine HE.out.mono ?_
        rintro e w' ⟨rfl, rfl⟩
        go_wp2_with fail
        go_ret
        exact ⟨rfl, H.out.setE 1, (Keeps.refl (fun x => x = b) w).setCell (p := ⟨b, 1, none⟩) (.inl rfl) _⟩
    · have hr := box (show R.num n = (((getN (R.take n).1.data.toList : Nat) : Int), (R.take n).2) by unfold Rdr.num; rw [if_neg (by simpa using he), if_neg hn])
      rw [hr.out]
      have h1 : 1 ≤ n := by omega
      have h2 : n ≤ 7 := by omega
      clear he hn
      obtain ⟨⟨x, R2⟩, hT⟩ : ∃ r, R.take n = r := ⟨_, rfl⟩
      rw [hT] at HT hts
      rw [hT]
      simp only at HT hts
      have hx := hts.out h2
      clear hT
      go_enter Try.func57, Try.ntmps57
      go_wp2_with fail
      refine HE.out.mono ?_
      rintro e w' ⟨rfl, rfl⟩
      go_wp2_with fail
      refine HT.out.mono ?_
      rintro e w2 ⟨rfl, hR2, hk2⟩
      have hR2 := box hR2
      have hk2 := box hk2
      go_wp2_with fail
      refine (get_any x _ hx).mono ?_
      rintro e w3 ⟨rfl, rfl⟩
      go_wp2_with fail
      go_ret
      exact ⟨rfl, hR2.out, hk2.out⟩
  · have hr := box (show R.num n = (0, R) by unfold Rdr.num; rw [if_pos (by simpa using he)])
    rw [hr.out]
    have he' : (R.e == 0) = false := by rw [beq_eq_false_iff_ne]; exact he
    clear he
    go_enter Try.func57, Try.ntmps57
    go_wp2_with fail
    refine HE.out.mono ?_
    rintro e w' ⟨rfl, rfl⟩
    go_wp2_with fail
    go_ret
    exact ⟨rfl, H.out, .refl _ _⟩
end Go.Proofs.Ytbmhjojlbmbpkaa.oc
