/- Layer 4: All, Len, Read, laid. -/
import Derived.Test.YtbmhjojlbmbpkaaDisk4
import Derived.Test.YtbmhjojlbmbpkaaBytes
namespace Go.Proofs.Ytbmhjojlbmbpkaa.dk
open Go.ChangeShapes Go.WideShapes Go.ChangeAt Go.RowKit

section
variable {p mb : Nat} {wv : Value} {D : DiskS} {F : Nat → Prop}

/-- What 'All' tells of a name. -/
def DiskS.all (D : DiskS) (n : ByteArray) : ByteArray × Int :=
  if D.down then (⟨#[]⟩, 8) else match D.find n with | none => (⟨#[]⟩, 9) | some f => (f.now, 0)

theorem bars_one (n : ByteArray) : D.bars [n] = if D.down then 8 else if D.has n then 0 else 9 := by unfold DiskS.bars; simp

theorem AllNil_any (w : World) (n : ByteArray) : Calls Try.prog 17 #[.pointer none, .string n] w fun e w' => e = .returned (.tuple #[.string ⟨#[]⟩, .int .i64 1]) ∧ Calm w w' := by
  go_enter Try.func17, Try.ntmps17
  go_wp2_with (go_at_call 36; refine (barsNil_any _ _).mono ?_; rintro e w' ⟨rfl, rfl⟩)
  go_ret2
  refine ⟨rfl, ?_⟩
  (repeat' (first | (with_reducible exact Calm.refl _) | (with_reducible assumption) | (with_reducible refine Calm.drew ?_) | (with_reducible refine Calm.alloc ?_ _) | (with_reducible refine Calm.trans ?_ (by assumption))))

set_option maxHeartbeats 1000000 in
theorem All_in (w : World) (n : ByteArray) (h : DiskIn w p mb wv D) : Calls Try.prog 17 #[ptrTo p, .string n] w fun e w' => e = .returned (.tuple #[.string (D.all n).1, .int .i64 (D.all n).2]) ∧ Calm w w' := by
  have hcalm : Calm w (w.alloc (.cells #[.string n] 9)) := (Calm.refl w).alloc _
  have h1 := h.calm hcalm
  obtain ⟨c0, c1, c2, c3, c4⟩ := h1.cells
  have hlook := h1.look n
  have Hb := box (bars_any (p := p) (mb := mb) (wv := wv) (D := D) (.slice (some ⟨w.heap.size, 0, none⟩) 1 1) [n] (w.alloc (.cells #[.string n] 9)) h1 (StrsAt.one (by go_cell)) (by simp))
  have hb1 := box (bars_one (D := D) n)
  cases hd : D.down
  · cases hf : D.find n with
    | none =>
      have hh : D.has n = false := by unfold DiskS.has; rw [hf]; rfl
      have hres := box (show D.all n = (⟨#[]⟩, 9) by unfold DiskS.all; rw [hd, hf]; rfl)
      have hb2 := box (show D.bars [n] = 9 by rw [hb1.out, hd, hh]; rfl)
      clear hb1 h h1 hf hh hd
      rw [hres.out]
      go_enter Try.func17, Try.ntmps17
      go_wp2_with fail
      refine Hb.out.mono ?_
      rw [hb2.out]
      rintro e w' ⟨rfl, rfl⟩
      go_wp2_with fail
      go_ret2
      exact ⟨rfl, hcalm⟩
    | some f =>
      have hh : D.has n = true := by unfold DiskS.has; rw [hf]; rfl
      have hp := ptr_some hf
      obtain ⟨d0, d1, d2, d3⟩ := h1.file hf
      have hres := box (show D.all n = (f.now, 0) by unfold DiskS.all; rw [hd, hf]; rfl)
      have hb2 := box (show D.bars [n] = 0 by rw [hb1.out, hd, hh]; rfl)
      clear hb1 h h1 hf hh hd
      rw [hres.out]
      go_enter Try.func17, Try.ntmps17
      go_wp2_with fail
      refine Hb.out.mono ?_
      rw [hb2.out]
      rintro e w' ⟨rfl, rfl⟩
      go_wp2_with fail
      go_ret2
      exact ⟨rfl, hcalm⟩
  · have hres := box (show D.all n = (⟨#[]⟩, 8) by unfold DiskS.all; rw [hd]; rfl)
    have hb2 := box (show D.bars [n] = 8 by rw [hb1.out, hd]; rfl)
    clear hb1 h h1 hd
    rw [hres.out]
    go_enter Try.func17, Try.ntmps17
    go_wp2_with fail
    refine Hb.out.mono ?_
    rw [hb2.out]
    rintro e w' ⟨rfl, rfl⟩
    go_wp2_with fail
    go_ret2
    exact ⟨rfl, hcalm⟩
theorem All_any (w : World) (n : ByteArray) (h : DiskAt w p D F) : Calls Try.prog 17 #[ptrTo p, .string n] w fun e w' => e = .returned (.tuple #[.string (D.all n).1, .int .i64 (D.all n).2]) ∧ Calm w w' := by
  obtain ⟨mb, wv, h, rfl⟩ := h
  exact All_in w n h

theorem infoByte : (Try.prog.info? 5).map (fun i => (i.zero, i.size, i.bytes)) = some (some (.int .u8 0), 1, 1) := by kernel_rfl

set_option maxRecDepth 100000 in
set_option maxHeartbeats 1000000 in
theorem laid_any (s o : ByteArray) (k : Nat) (w : World) (hs : s.size ≤ 1000000000) (ho : o.size ≤ 1000000000) (hk : k ≤ 1000000000) :
    Calls Try.prog 38 #[.string s, .int .i64 k, .string o] w fun e w' => e = .returned (.string (laid s k o)) ∧ Calm w w' := by
  by_cases h0 : o.size = 0
  · have h1 : o.toList = [] := by rw [Lib.toList_data]; exact List.eq_nil_of_length_eq_zero (by simpa using h0)
    have hr := box (show laid s k o = s by unfold laid laidL; rw [if_pos (by rw [← Lib.toList_data]; exact h1)])
    go_enter Try.func38, Try.ntmps38
    go_wp2
    go_ret
    exact ⟨ret_str (by rw [hr.out]), Calm.refl _⟩
  · have h1 : o.toList.isEmpty = false := by rw [Lib.toList_data, List.isEmpty_eq_false_iff]; intro h; apply h0; simpa using congrArg List.length h
    obtain ⟨g, cap, W1, hconv, hbuf, hcalm, hg⟩ := conv_bytes (P := Try.prog) w 9 43 5 s Try.underlying9 Try.underlying43 Try.underlying5
    obtain ⟨i0, hi, hz0, hz1, hz2⟩ := info_parts infoByte
    by_cases h2 : (s.size : Int) < k + o.size
    · obtain ⟨n, hn⟩ : ∃ n : Nat, ((k : Int) + o.size - s.size) = n := ⟨k + o.size - s.size, by omega⟩
      obtain ⟨g2, cap2, W2, happ, hbuf2, hkeep2, hg2⟩ := append_zeros (P := Try.prog) W1 43 3 43 5 i0 .i64 Try.underlying43 Try.underlying3 hi hz0 hz1 hz2 hbuf n (by omega) (by simp; omega)
      rw [← hn] at happ
      simp only [size_toList] at happ
      have Happ := box happ
      clear happ
      have hz1 : n + s.size = k + o.size := by omega
      have hle2 := hbuf2.le
      simp only [List.length_append, List.length_replicate, size_toList] at hle2
      have hk2 : k < cap2 := by omega
      have hk3 : k < s.size + n := by omega
      have hk4 : ¬ cap2 = k := by omega
      have hb3 := hbuf2.over k o.data.toList (by simp; omega)
      have hlen3 : ((s.data.toList ++ List.replicate n (0 : UInt8)).take k ++ o.data.toList ++ (s.data.toList ++ List.replicate n (0 : UInt8)).drop (k + o.data.toList.length)).length = s.size + n := by simp; omega
      have hcopy := box (copy_over (P := Try.prog) W2 43 9 3 5 Try.underlying43 (fun _ => by kernel_rfl) hbuf2 k o (by simp; omega) (cap2 - k))
      have hback := conv_string (P := Try.prog) _ 43 9 5 Try.underlying43 Try.underlying5 Try.underlying9 hb3 cap2
      rw [hlen3] at hback
      have hres := box (show laid s k o = ⟨((s.data.toList ++ List.replicate n (0 : UInt8)).take k ++ o.data.toList ++ (s.data.toList ++ List.replicate n (0 : UInt8)).drop (k + o.data.toList.length)).toArray⟩ by
        unfold laid laidL pad
        rw [if_neg (by intro h; apply h0; simpa using congrArg List.length h), show k + o.data.toList.length - s.data.toList.length = n by simp; omega])
      obtain ⟨L, hL⟩ : ∃ L, ((s.data.toList ++ List.replicate n (0 : UInt8)).take k ++ o.data.toList ++ (s.data.toList ++ List.replicate n (0 : UInt8)).drop (k + o.data.toList.length)) = L := ⟨_, rfl⟩
      rw [hL] at hback hres
      have hlen2 : (s.data.toList ++ List.replicate n (0 : UInt8)).length - k = s.size + n - k := by simp
      rw [hlen2] at hcopy
      have hcalm3 := box (show Calm w (W2.setCells g2 k (o.data.toList.map byteV)) from by
        have hk2' : Keeps (fun b => w.heap.size ≤ b) w (W2.setCells g2 k (o.data.toList.map byteV)) :=
          keeps_setCells _ g2 _ _ _ _ (.inl (by rcases hg2 with h | h; rw [h]; exact hg; have := hcalm.size; omega)) ((Keeps.of_calm hcalm).trans' (hkeep2.mono fun b hb e => by subst e; exact hg))
        exact hk2'.below (Nat.le_refl _) (fun b hb => hb))
      have Hn := box hn
      clear hn hz1 hL hlen2 hlen3 hb3
      go_enter Try.func38, Try.ntmps38
      go_wp2_with (first | (at_builtin; refine Lib.wpList_append_run _ rfl _ _ _ _ rfl _ _ rfl rfl _ _ Happ.out ?_) | (refine wpList_copy_run _ rfl _ _ _ _ rfl _ _ rfl rfl _ _ hcopy.out ?_))
      go_ret
      exact ⟨ret_str (by rw [hres.out]), hcalm3.out⟩
    · have hle2 := hbuf.le
      simp only [size_toList] at hle2
      have hk2 : k < cap := by omega
      have hk3 : k < s.size := by omega
      have hk4 : ¬ cap = k := by omega
      have hb3 := hbuf.over k o.data.toList (by simp; omega)
      have hlen3 : (s.data.toList.take k ++ o.data.toList ++ s.data.toList.drop (k + o.data.toList.length)).length = s.size := by simp; omega
      have hcopy := box (copy_over (P := Try.prog) W1 43 9 3 5 Try.underlying43 (fun _ => by kernel_rfl) hbuf k o (by simp; omega) (cap - k))
      have hback := conv_string (P := Try.prog) _ 43 9 5 Try.underlying43 Try.underlying5 Try.underlying9 hb3 cap
      rw [hlen3] at hback
      have hres := box (show laid s k o = ⟨(s.data.toList.take k ++ o.data.toList ++ s.data.toList.drop (k + o.data.toList.length)).toArray⟩ by
        unfold laid laidL pad
        rw [if_neg (by intro h; apply h0; simpa using congrArg List.length h), show k + o.data.toList.length - s.data.toList.length = 0 by simp; omega, List.replicate_zero, List.append_nil])
      obtain ⟨L, hL⟩ : ∃ L, (s.data.toList.take k ++ o.data.toList ++ s.data.toList.drop (k + o.data.toList.length)) = L := ⟨_, rfl⟩
      rw [hL] at hback hres
      rw [size_toList] at hcopy
      have hcalm3 := box (show Calm w (W1.setCells g k (o.data.toList.map byteV)) from by
        have hk2' : Keeps (fun b => w.heap.size ≤ b) w (W1.setCells g k (o.data.toList.map byteV)) :=
          keeps_setCells _ g _ _ _ _ (.inl hg) (Keeps.of_calm hcalm)
        exact hk2'.below (Nat.le_refl _) (fun b hb => hb))
      clear hL hlen3 hb3
      go_enter Try.func38, Try.ntmps38
      go_wp2_with (first | (refine wpList_copy_run _ rfl _ _ _ _ rfl _ _ rfl rfl _ _ hcopy.out ?_))
      go_ret
      exact ⟨ret_str (by rw [hres.out]), hcalm3.out⟩

end
end Go.Proofs.Ytbmhjojlbmbpkaa.dk
