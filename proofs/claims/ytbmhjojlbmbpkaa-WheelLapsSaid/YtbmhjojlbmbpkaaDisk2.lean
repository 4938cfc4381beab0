/- Layer 4: the fuse, what bars a call, Create. -/
import Derived.Test.YtbmhjojlbmbpkaaDisk1
namespace Go.Proofs.Ytbmhjojlbmbpkaa.dk
open Go.ChangeShapes Go.WideShapes Go.ChangeAt Go.RowKit

section
variable {p mb : Nat} {wv : Value} {D : DiskS}

/-- What a call that turns the disk's own numbers leaves. -/
structure Nums (w w' : World) (p mb : Nat) (wv : Value) (D' : DiskS) : Prop where
  disk : DiskIn w' p mb wv D'
  keeps : Keeps (· = p) w w'
  size : w'.heap.size = w.heap.size

theorem done_any (w : World) (h : DiskIn w p mb wv D) (hl : D.left ≤ 9223372036854775807) :
    Calls Try.prog 37 #[ptrTo p] w fun e w' => e = .returned (.int .i64 (if D.burns then 8 else 0)) ∧ Nums w w' p mb wv D.burn := by
  obtain ⟨c0, c1, c2, c3, c4⟩ := h.cells
  obtain ⟨f0, f1, f2, f3, f4⟩ := h.free
  have H := box h
  clear h
  rcases Int.lt_trichotomy D.left 0 with hneg | hz | hpos
  · have e1 : D.burns = false := by unfold DiskS.burns; rw [decide_eq_false]; omega
    have e2 : D.burn = D := by unfold DiskS.burn; rw [if_neg (by omega), if_neg (by omega)]
    have t1 : (D.left == 0) = false := by rw [beq_eq_false_iff_ne]; omega
    rw [e1, e2]
    go_enter Try.func37, Try.ntmps37
    go_wp2
    go_ret
    exact ⟨rfl, H.out, .refl _ _, rfl⟩
  · have e1 : D.burns = true := by unfold DiskS.burns; rw [hz]; rfl
    have e2 : D.burn = { D with left := -1, down := true } := by unfold DiskS.burn; rw [if_pos hz]
    have t1 : (D.left == 0) = true := by rw [beq_iff_eq]; exact hz
    rw [e1, e2]
    clear hz
    go_enter Try.func37, Try.ntmps37
    go_wp2
    go_ret
    refine ⟨rfl, ?_, ((Keeps.refl (· = p) w).setCell (p := ⟨p, 0, none⟩) (.inl rfl) _).setCell (p := ⟨p, 1, none⟩) (.inl rfl) _, by simp [World.setCell]⟩
    exact (H.out.setObj (D' := { D with left := -1 }) 0 _ rfl rfl rfl).setObj (D' := { D with left := -1, down := true }) 1 _ rfl rfl rfl
  · have e1 : D.burns = false := by unfold DiskS.burns; rw [decide_eq_false]; omega
    have e2 : D.burn = { D with left := D.left - 1 } := by unfold DiskS.burn; rw [if_neg (by omega), if_pos hpos]
    have t1 : (D.left == 0) = false := by rw [beq_eq_false_iff_ne]; omega
    rw [e1, e2]
    go_enter Try.func37, Try.ntmps37
    go_wp2
    go_ret
    refine ⟨rfl, ?_, (Keeps.refl (· = p) w).setCell (p := ⟨p, 0, none⟩) (.inl rfl) _, by simp [World.setCell]⟩
    exact H.out.setObj (D' := { D with left := D.left - 1 }) 0 _ rfl rfl rfl

theorem barsNil_any (v : Value) (w : World) : Calls Try.prog 36 #[.pointer none, v] w fun e w' => e = .returned (.int .i64 1) ∧ w = w' := by
  go_enter Try.func36, Try.ntmps36
  go_wp2
  go_ret
  exact ⟨rfl, rfl⟩

theorem bars_snoc (l : List ByteArray) (k : Nat) (hk : k < l.length) : (l.take (k + 1)).all D.has = ((l.take k).all D.has && D.has (l.getD k ByteArray.empty)) := by
  rw [List.take_succ_eq_append_getElem hk, List.all_append]; simp [List.getD_eq_getElem?_getD, List.getElem?_eq_getElem hk]
theorem bars_no (l : List ByteArray) (k : Nat) (hk : k < l.length) (h : D.has (l.getD k ByteArray.empty) = false) : l.all D.has = false := by
  rw [List.all_eq_false]
  exact ⟨l[k], List.getElem_mem _, by simpa [List.getD_eq_getElem?_getD, List.getElem?_eq_getElem hk] using h⟩
theorem has_none {n : ByteArray} (h : D.has n = false) : D.ptr n = none := by
  unfold DiskS.has at h
  cases hf : D.find n
  · exact ptr_none hf
  · rw [hf] at h; cases h
theorem has_some {n : ByteArray} (h : D.has n = true) : ∃ f, D.find n = some f ∧ D.ptr n = some ⟨f.blk, 0, none⟩ := by
  unfold DiskS.has at h
  cases hf : D.find n
  · rw [hf] at h; cases h
  · exact ⟨_, rfl, ptr_some hf⟩

set_option maxHeartbeats 1000000 in
theorem bars_any (v : Value) (l : List ByteArray) (w : World) (h : DiskIn w p mb wv D) (hv : StrsAt w v l) (hl : l.length ≤ 4294967296) :
    Calls Try.prog 36 #[ptrTo p, v] w fun e w' => e = .returned (.int .i64 (D.bars l)) ∧ w = w' := by
  obtain ⟨c0, c1, c2, c3, c4⟩ := h.cells
  obtain ⟨a, cap, rfl, hc⟩ := hv.uni
  have Hc := box hc
  have hlook := h.look
  clear hc hv h
  cases hd : D.down
  · rw [hd] at c1
    have hb := box (show D.bars l = if l.all D.has then 0 else 9 by unfold DiskS.bars; rw [hd]; rfl)
    clear hd
    go_enter Try.func36, Try.ntmps36
    go_wp2
    go_loop [18] (fun i => ∃ k : Nat, k ≤ l.length ∧ i = .int .i64 k ∧ (l.take k).all D.has = true) (fun i => l.length - (intOf i).toNat)
    case atStart => exact ⟨0, Nat.zero_le _, rfl, rfl⟩
    case round =>
      obtain ⟨k, hk, rfl, hall⟩ := hrel
      have Hall := box hall
      clear hall
      by_cases hlt : k < l.length
      · obtain ⟨b, off, rfl, hbl, hcell⟩ := Hc.out k hlt
        have h1 := box (bars_snoc (D := D) l k hlt)
        have h2 := box (bars_no (D := D) l k hlt)
        obtain ⟨s, hs⟩ : ∃ s, l.getD k ByteArray.empty = s := ⟨_, rfl⟩
        rw [hs] at hcell h1 h2
        clear hs
        cases hh : D.has s
        · have hp := has_none hh
          have h3 := box (h2.out hh)
          clear h1 h2 hh
          go_wp2
          go_ret
          exact ⟨ret_int (by rw [hb.out, h3.out]; rfl), rfl⟩
        · obtain ⟨f, hf, hp⟩ := has_some hh
          have h3 := box (show (l.take (k + 1)).all D.has = true by rw [h1.out, Hall.out, hh]; rfl)
          clear h1 h2 hh hf
          go_wp2
          go_round
          case rel => exact ⟨k + 1, by omega, by go_num, h3.out⟩
          case measure => simp [intOf]; omega
      · obtain rfl : k = l.length := by omega
        have h3 := box (show D.bars l = 0 by have := Hall.out; rw [List.take_length] at this; rw [hb.out, this]; rfl)
        go_wp2
        go_ret
        exact ⟨ret_int (by rw [h3.out]), rfl⟩
  · rw [hd] at c1
    have hb := box (show D.bars l = 8 by unfold DiskS.bars; rw [hd]; rfl)
    clear hd
    go_enter Try.func36, Try.ntmps36
    go_wp2
    go_ret
    exact ⟨ret_int (by rw [hb.out]), rfl⟩

end
end Go.Proofs.Ytbmhjojlbmbpkaa.dk
