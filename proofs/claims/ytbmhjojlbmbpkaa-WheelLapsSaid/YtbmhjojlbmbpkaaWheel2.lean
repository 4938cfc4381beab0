/- Layer 15: a wheel's slots and its hand. -/
import Derived.Test.YtbmhjojlbmbpkaaWheel
namespace Go.Proofs.Ytbmhjojlbmbpkaa.wh
open Go.ChangeShapes Go.WideShapes Go.ChangeAt Go.RowKit
open Go.Proofs.Ytbmhjojlbmbpkaa.dk Go.Proofs.Ytbmhjojlbmbpkaa.oc

theorem _root_.Go.Proofs.Ytbmhjojlbmbpkaa.Step.apart {F F' : Nat → Prop} {w w' : World} (s : Step F w F' w') {q : Nat} (hq : ¬ F q) (lt : q < w.heap.size) : ¬ F' q := fun h => by
  rcases s.foot q h with h | h
  · exact hq h
  · omega

def slotBad (s : Int) : Bool := decide (s < 0) || decide (16 ≤ s)
theorem bars_any (q p : Nat) (t s : Int) (w : World) (h : WheelAt w q p t) : Calls Try.prog 53 #[ptrTo q, .int .i64 s] w fun e w' => e = .returned (.int .i64 (if slotBad s then 2 else 0)) ∧ w = w' := by
  clear h
  by_cases h1 : s < 0
  · have hb : slotBad s = true := by unfold slotBad; rw [decide_eq_true h1]; rfl
    rw [hb]
    clear hb
    go_enter Try.func53, Try.ntmps53
    go_wp2
    go_ret
    exact ⟨rfl, rfl⟩
  · by_cases h2 : 16 ≤ s
    · have hb : slotBad s = true := by unfold slotBad; rw [decide_eq_true h2]; simp
      rw [hb]
      clear hb
      go_enter Try.func53, Try.ntmps53
      go_wp2
      go_ret
      exact ⟨rfl, rfl⟩
    · have hb : slotBad s = false := by unfold slotBad; rw [decide_eq_false h1, decide_eq_false h2]; rfl
      rw [hb]
      clear hb
      go_enter Try.func53, Try.ntmps53
      go_wp2
      go_ret
      exact ⟨rfl, rfl⟩
theorem barsNil_any (s : Int) (w : World) : Calls Try.prog 53 #[.pointer none, .int .i64 s] w fun e w' => e = .returned (.int .i64 1) ∧ w = w' := by
  go_enter Try.func53, Try.ntmps53
  go_wp2
  go_ret
  exact ⟨rfl, rfl⟩

/-- A slot's last mark, and the error's number. -/
def whd (D : DiskS) (s : Int) : Int × Int :=
  if slotBad s then (0, 2) else if (D.read wslots (6 * s) 6).2 ≠ 0 then (0, (D.read wslots (6 * s) 6).2) else (((⟨(D.read wslots (6 * s) 6).1, 0⟩ : Rdr).num 6).1, 0)
theorem read_size {D : DiskS} (hg : dk.Good D) (s : ByteArray) (k m : Int) : (D.read s k m).1.size ≤ 16777216 := by
  have := all_le hg s
  unfold DiskS.read
  split; exact Nat.zero_le _
  split; exact Nat.zero_le _
  simp only [ByteArray.size_extract]
  omega
set_option maxRecDepth 100000 in
set_option maxHeartbeats 2000000 in
theorem Head_any {p n : Nat} {D : DiskS} {F : Nat → Prop} (q : Nat) (t s : Int) (w : World) (h : DiskOk w p D F n) (hq : WheelAt w q p t) :
    Calls Try.prog 34 #[ptrTo q, .int .i64 s] w fun e w' => e = .returned (.tuple #[.int .i64 (whd D s).1, .int .i64 (whd D s).2]) ∧ Calm w w' := by
  have hb := box (bars_any q p t s w hq)
  obtain ⟨c0, c1, f0, f1, hlt⟩ := hq.cells
  cases hsb : slotBad s
  · have hs : 0 ≤ s ∧ s < 16 := by unfold slotBad at hsb; simp at hsb; omega
    obtain ⟨hs0, hs1⟩ := hs
    have hr := box (show whd D s = if (D.read wslots (6 * s) 6).2 ≠ 0 then (0, (D.read wslots (6 * s) 6).2) else (((⟨(D.read wslots (6 * s) 6).1, 0⟩ : Rdr).num 6).1, 0) by unfold whd; rw [hsb]; simp)
    rw [hsb] at hb
    have hrd := box (Read_ok wslots (6 * s) 6 w h)
    have hsz := box (read_size h.good wslots (6 * s) 6)
    obtain ⟨⟨x, y⟩, hxy⟩ : ∃ r, D.read wslots (6 * s) 6 = r := ⟨_, rfl⟩
    rw [hxy] at hr hrd hsz
    clear h hq hsb hxy
    rcases err_cases y with rfl | ⟨x1, x2, x3⟩
    · have hr := box (show whd D s = (((⟨x, 0⟩ : Rdr).num 6).1, 0) by rw [hr.out]; simp)
      rw [hr.out]
      go_enter Try.func34, Try.ntmps34
      go_wp2_with fail
      refine hb.out.mono ?_
      rintro e w1 ⟨rfl, rfl⟩
      go_wp2_with fail
      refine hrd.out.mono ?_
      rintro e w1 ⟨rfl, hc1⟩
      have Hc1 := box hc1
      clear hc1
      go_wp2_with fail
      refine (oc.New_any x w1).mono ?_
      rintro e w2 ⟨b, hb2, rfl, hR, hc2⟩
      have HR := box hR
      have Hc2 := box hc2
      have Hb2 := box hb2
      clear hR hc2 hb2
      go_wp2_with fail
      refine (RNum_any b ⟨x, 0⟩ 6 w2 HR.out (by have := hsz.out; simp only at this ⊢; omega)).mono ?_
      rintro e w3 ⟨rfl, _, hk⟩
      have Hk := box hk
      clear hk
      go_wp2_with fail
      go_ret2
      exact ⟨rfl, Below.trans (Hc1.out.trans Hc2.out) (Hk.out.below (Hc1.out.trans Hc2.out).size (fun x e => by have := Hb2.out; have := Hc1.out.size; omega))⟩
    · have hr := box (show whd D s = (0, y) by rw [hr.out]; simp only [ne_eq, x3.out, not_false_eq_true, if_true])
      rw [hr.out]
      go_enter Try.func34, Try.ntmps34
      go_wp2_with fail
      refine hb.out.mono ?_
      rintro e w1 ⟨rfl, rfl⟩
      go_wp2_with fail
      refine hrd.out.mono ?_
      rintro e w1 ⟨rfl, hc1⟩
      have Hc1 := box hc1
      clear hc1
      go_wp2_with fail
      go_ret2
      exact ⟨rfl, Hc1.out⟩
  · have hr := box (show whd D s = (0, 2) by unfold whd; rw [hsb]; rfl)
    rw [hr.out]
    rw [hsb] at hb
    clear h hq hsb
    go_enter Try.func34, Try.ntmps34
    go_wp2_with fail
    refine hb.out.mono ?_
    rintro e w1 ⟨rfl, rfl⟩
    go_wp2_with fail
    go_ret2
    exact ⟨rfl, .refl _⟩

/-- A slot's mark is set. -/
def wset (D : DiskS) (s n : Int) : Int × DiskS := if slotBad s then (2, D) else if fitsN 6 n then D.write wslots (6 * s) ⟨(low 6 n.toNat).toArray⟩ else (1, D)
theorem num6 (n : Int) : numB 6 [n] = if fitsN 6 n then (⟨(low 6 n.toNat).toArray⟩, 0) else (⟨#[]⟩, 2) := by
  unfold numB
  rw [if_neg (by decide)]
  simp [lowN]
set_option maxRecDepth 100000 in
set_option maxHeartbeats 4000000 in
theorem Set_any {p n : Nat} {D : DiskS} {F : Nat → Prop} (q : Nat) (t s m : Int) (w : World) (h : DiskOk w p D F n) (hn : n ≤ 999999) (hq : WheelAt w q p t) (hF : ¬ F q) (hm : -9223372036854775808 ≤ m ∧ m ≤ 9223372036854775807) :
    Calls Try.prog 31 #[ptrTo q, .int .i64 s, .int .i64 m] w (OkDone (wset D s m) p F (n + 1) w) := by
  have hb := box (bars_any q p t s w hq)
  obtain ⟨c0, c1, f0, f1, hlt⟩ := hq.cells
  have H := box h
  cases hsb : slotBad s
  · have hs : 0 ≤ s ∧ s < 16 := by unfold slotBad at hsb; simp at hsb; omega
    obtain ⟨hs0, hs1⟩ := hs
    have hr := box (show wset D s m = if fitsN 6 m then D.write wslots (6 * s) ⟨(low 6 m.toNat).toArray⟩ else (1, D) by unfold wset; rw [hsb]; rfl)
    have hcalm := box ((Calm.refl w).alloc (.cells #[.int .i64 m] 3))
    have hnum := box (Num_any 6 (some ⟨w.heap.size, 0, none⟩) 1 [m] (w.alloc (.cells #[.int .i64 m] 3)) (fun k hk => ⟨w.heap.size, 0, rfl, by simp, by
      have : k = 0 := by simpa using hk
      subst this
      exact cell_of (heap_new w _) 0⟩) (by simp) (fun x hx => by rw [List.mem_singleton] at hx; subst hx; exact hm))
    rw [num6] at hnum
    rw [hsb] at hb
    clear h hq hsb
    cases hf : fitsN 6 m
    · have hr := box (show wset D s m = (1, D) by rw [hr.out, hf]; rfl)
      rw [hf] at hnum
      clear hf
      go_enter Try.func31, Try.ntmps31
      go_wp2_with fail
      refine hb.out.mono ?_
      rintro e w1 ⟨rfl, rfl⟩
      go_wp2_with fail
      refine hnum.out.mono ?_
      rintro e w2 ⟨rfl, hc2⟩
      have Hc2 := box (hcalm.out.trans hc2)
      clear hc2
      go_wp2_with fail
      go_ret
      exact ⟨ret_int (by rw [hr.out]), F, by rw [hr.out]; exact (H.out.calm Hc2.out).mono (by omega), Step.of_calm Hc2.out⟩
    · have hr := box (show wset D s m = D.write wslots (6 * s) ⟨(low 6 m.toNat).toArray⟩ by rw [hr.out, hf]; rfl)
      rw [hf] at hnum
      clear hf
      go_enter Try.func31, Try.ntmps31
      go_wp2_with fail
      refine hb.out.mono ?_
      rintro e w1 ⟨rfl, rfl⟩
      go_wp2_with fail
      refine hnum.out.mono ?_
      rintro e w2 ⟨rfl, hc2⟩
      have e0 := (hc2.cell (p := ⟨q, 0, none⟩) (by simp; omega)).trans ((hcalm.out.cell (p := ⟨q, 0, none⟩) hlt).trans c0)
      have hlt2 := Nat.lt_of_lt_of_le hlt (Nat.le_trans hcalm.out.size hc2.size)
      have Hc2 := box (hcalm.out.trans hc2)
      clear hc2
      go_wp2_with fail
      refine (Write_ok wslots ⟨(low 6 m.toNat).toArray⟩ (6 * s) w2 (H.out.calm Hc2.out) (by omega) (by rw [low_size]; decide)).mono ?_
      rintro e w3 ⟨rfl, F3, h3, hs3⟩
      have H3 := box h3
      have Hs3 := box hs3
      clear h3 hs3
      go_wp2_with fail
      go_ret
      exact ⟨ret_int (by rw [hr.out]), F3, by rw [hr.out]; exact H3.out, Step.calm_left Hc2.out Hs3.out⟩
  · have hr := box (show wset D s m = (2, D) by unfold wset; rw [hsb]; rfl)
    rw [hsb] at hb
    clear h hq hsb
    go_enter Try.func31, Try.ntmps31
    go_wp2_with fail
    refine hb.out.mono ?_
    rintro e w1 ⟨rfl, rfl⟩
    go_wp2_with fail
    go_ret
    exact ⟨ret_int (by rw [hr.out]), F, by rw [hr.out]; exact H.out.mono (by omega), .refl _ _⟩

/-- The hand goes on. -/
def turned (t now : Int) : Int × Bool × Int := if now ≤ t then (0, false, t) else (t + 1, true, t + 1)
theorem handTurn_any (q p : Nat) (t now : Int) (w : World) (h : WheelAt w q p t) (ht : 0 ≤ t ∧ t ≤ 9000000000000000000) :
    Calls Try.prog 45 #[.pointer (some ⟨q, 1, none⟩), .int .i64 now] w fun e w' => e = .returned (.tuple #[.int .i64 (turned t now).1, .bool (turned t now).2.1]) ∧ WheelAt w' q p (turned t now).2.2 ∧ Keeps (· = q) w w' := by
  obtain ⟨c0, c1, f0, f1, hlt⟩ := h.cells
  have H := box h
  clear h
  obtain ⟨ht0, ht1⟩ := ht
  by_cases hn : now ≤ t
  · have hr : turned t now = (0, false, t) := by unfold turned; rw [if_pos hn]
    rw [hr]
    clear hr
    go_enter Try.func45, Try.ntmps45
    go_wp2
    go_ret2
    exact ⟨rfl, H.out, .refl _ _⟩
  · have hr : turned t now = (t + 1, true, t + 1) := by unfold turned; rw [if_neg hn]
    rw [hr]
    clear hr
    go_enter Try.func45, Try.ntmps45
    go_wp2
    go_ret2
    refine ⟨rfl, ?_, (Keeps.refl (fun x => x = q) w).setCell (p := ⟨q, 1, none⟩) (.inl rfl) _⟩
    have := heap_set H.out 1 (.int .i64 (t + 1))
    exact this
theorem Turn_any (q p : Nat) (t now : Int) (w : World) (h : WheelAt w q p t) (ht : 0 ≤ t ∧ t ≤ 9000000000000000000) :
    Calls Try.prog 22 #[ptrTo q, .int .i64 now] w fun e w' => e = .returned (.tuple #[.int .i64 (turned t now).1, .bool (turned t now).2.1]) ∧ WheelAt w' q p (turned t now).2.2 ∧ Keeps (· = q) w w' := by
  have hh := box (handTurn_any q p t now w h ht)
  clear h
  go_enter Try.func22, Try.ntmps22
  go_wp2_with fail
  refine hh.out.mono ?_
  rintro e w1 ⟨rfl, h1, hk⟩
  have H1 := box h1
  have Hk := box hk
  clear h1 hk
  go_wp2_with fail
  go_ret2
  exact ⟨rfl, H1.out, Hk.out⟩
theorem Hand_any (q p : Nat) (t : Int) (w : World) (h : WheelAt w q p t) : Calls Try.prog 24 #[ptrTo q] w fun e w' => e = .returned (.int .i64 t) ∧ w = w' := by
  obtain ⟨c0, c1, f0, f1, hlt⟩ := h.cells
  clear h
  go_enter Try.func24, Try.ntmps24
  go_wp2
  go_ret
  exact ⟨rfl, rfl⟩
end Go.Proofs.Ytbmhjojlbmbpkaa.wh
