/- Layer 15: a wheel. -/
import Derived.Test.YtbmhjojlbmbpkaaDiskR
import Derived.Test.YtbmhjojlbmbpkaaList
import Derived.Test.YtbmhjojlbmbpkaaNum
namespace Go.Proofs.Ytbmhjojlbmbpkaa.wh
open Go.ChangeShapes Go.WideShapes Go.ChangeAt Go.RowKit
open Go.Proofs.Ytbmhjojlbmbpkaa.dk Go.Proofs.Ytbmhjojlbmbpkaa.oc

theorem err_cases (r : Int) : r = 0 ∨ ((r == 0) = false ∧ (r != 0) = true ∧ Box (r ≠ 0)) := by
  by_cases h : r = 0
  · exact .inl h
  · exact .inr ⟨beq_eq_false_iff_ne.2 h, bne_iff_ne.2 h, box h⟩

abbrev wslots : ByteArray := ⟨#[119, 45, 115, 108, 111, 116, 115]⟩
abbrev whead : ByteArray := ⟨#[119, 45]⟩
def noughts (n : Nat) : ByteArray := ⟨(List.replicate n (0 : UInt8)).toArray⟩
/-- All files of a head go. -/
def cleared (D : DiskS) (hd : ByteArray) : Int × DiskS := if D.names hd = [] then (0, D) else D.delete (D.names hd)
def wnew (D : DiskS) (b : Nat) : Int × DiskS :=
  if (cleared D whead).1 ≠ 0 then cleared D whead else
  if ((cleared D whead).2.create wslots b).1 ≠ 0 then (cleared D whead).2.create wslots b else
  ((cleared D whead).2.create wslots b).2.write wslots 0 (noughts 96)

/-- A wheel lies at q, over the disk at p; its hand. -/
def WheelAt (w : World) (q p : Nat) (t : Int) : Prop := w.heap[q]? = some (.cells #[ptrTo p, .int .i64 t] 92 (0, 0))
theorem WheelAt.calm {w w' : World} {q p : Nat} {t : Int} (h : WheelAt w q p t) (hc : Calm w w') : WheelAt w' q p t := heap_calm hc h
theorem WheelAt.keep {w w' : World} {q p : Nat} {t : Int} {F : Nat → Prop} (h : WheelAt w q p t) (k : Keeps F w w') (hq : ¬ F q) : WheelAt w' q p t := (k.block q (heap_lt h) hq).trans h
theorem WheelAt.cells {w : World} {q p : Nat} {t : Int} (h : WheelAt w q p t) : w.cell? ⟨q, 0, none⟩ = some (ptrTo p) ∧ w.cell? ⟨q, 1, none⟩ = some (.int .i64 t) ∧ w.frozen? ⟨q, 0, none⟩ = false ∧ w.frozen? ⟨q, 1, none⟩ = false ∧ q < w.heap.size :=
  ⟨cell_of h 0, cell_of h 1, free_of h 0, free_of h 1, heap_lt h⟩

def WNew (D : DiskS) (p : Nat) (F : Nat → Prop) (n : Nat) (t : Int) (w : World) (e : Ending) (w' : World) : Prop :=
  ∃ b v F', w.heap.size ≤ b ∧ e = .returned (.tuple #[v, .int .i64 (wnew D b).1]) ∧ DiskOk w' p (wnew D b).2 F' (n + 1) ∧ Step F w F' w' ∧
    (((wnew D b).1 = 0 ∧ ∃ q, v = ptrTo q ∧ WheelAt w' q p t ∧ w.heap.size ≤ q ∧ ¬ F' q) ∨ ((wnew D b).1 ≠ 0 ∧ v = .pointer none))

theorem NewBad_any (v : Value) (t : Int) (w : World) (h : v = .pointer none ∨ (∃ p, v = ptrTo p ∧ (t < 0 ∨ 1099511627776 < t))) :
    Calls Try.prog 21 #[v, .int .i64 t] w fun e w' => e = .returned (.tuple #[.pointer none, .int .i64 1]) ∧ w = w' := by
  rcases h with rfl | ⟨p, rfl, h⟩
  · go_enter Try.func21, Try.ntmps21
    go_wp2
    go_ret2
    exact ⟨rfl, rfl⟩
  · have h' : t < 0 ∨ (0 ≤ t ∧ 1099511627776 < t) := by omega
    clear h
    rcases h' with h | ⟨h1, h2⟩
    all_goals
      go_enter Try.func21, Try.ntmps21
      go_wp2
      go_ret2
      exact ⟨rfl, rfl⟩

theorem infoByte : (Try.prog.info? 5).map (fun i => (i.zero, i.size, i.bytes)) = some (some (.int .u8 0), 1, 1) := by kernel_rfl
/-- string(make([]byte, n)), the two runs. -/
theorem made_string (w : World) (n : Nat) (z : Int) (hz : z = n) (hn : n ≤ 1000000) : (Instr.makeSlice 43 (.int .i64 z) (.int .i64 z)).run Try.prog w = .ok (.slice (some ⟨w.heap.size, 0, none⟩) n n) (w.alloc (.cells (madeCells #[Value.int .u8 0] n) 5)) ∧
    (convert 43 9 (.slice (some ⟨w.heap.size, 0, none⟩) n n)).run Try.prog (w.alloc (.cells (madeCells #[Value.int .u8 0] n) 5)) = .ok (.string (noughts n)) (w.alloc (.cells (madeCells #[Value.int .u8 0] n) 5)) := by
  subst hz
  obtain ⟨i0, hi, hz0, hz1, hz2⟩ := info_parts infoByte
  have hmk := run_make (P := Try.prog) w 43 5 i0 _ Try.underlying43 hi hz0 .i64 .i64 n n (by omega) (Int.le_refl _) (by rw [hz2]; omega) (by omega)
  simp only [hz1, Int.toNat_natCast, Nat.mul_one] at hmk
  have hback := conv_string (P := Try.prog) _ 43 9 5 Try.underlying43 Try.underlying5 Try.underlying9 (made_bytes w n) n
  rw [List.length_replicate] at hback
  exact ⟨hmk, hback⟩

set_option maxRecDepth 100000 in
set_option maxHeartbeats 8000000 in
theorem New_any {p n : Nat} {D : DiskS} {F : Nat → Prop} (t : Int) (w : World) (h : DiskOk w p D F n) (hn : n ≤ 999999) (ht : 0 ≤ t ∧ t ≤ 1099511627776) (hs : ∀ f ∈ D.files, f.name.size ≤ maxLen) (hl : D.files.length ≤ 1000000) :
    Calls Try.prog 21 #[ptrTo p, .int .i64 t] w (WNew D p F n t w) := by
  obtain ⟨ht0, ht1⟩ := ht
  have H := box h
  have hlist := box (List_any whead w h.lies hs hl)
  have hnl : (D.names whead).length ≤ 1000000 := by
    unfold DiskS.names DiskS.namesL
    rw [List.length_map]
    refine Nat.le_trans (List.length_filter_le _ _) ?_
    simpa using hl
  have Hnl := box hnl
  clear h hs hl hnl
  obtain ⟨l, hl⟩ : ∃ l, D.names whead = l := ⟨_, rfl⟩
  have hclr := box (show cleared D whead = if l = [] then (0, D) else D.delete l by unfold cleared; rw [hl])
  unfold ListDone at hlist
  rw [hl] at hlist Hnl
  clear hl
  cases l with
  | nil =>
    have hcl := box (show cleared D whead = (0, D) by rw [hclr.out, if_pos rfl])
    go_enter Try.func21, Try.ntmps21
    go_wp2_with fail
    refine hlist.out.mono ?_
    rintro e w1 ⟨v, rfl, hv, hc1, _⟩
    obtain ⟨la, lcap, rfl, _⟩ := hv.uni
    have H1 := box (H.out.calm hc1)
    have S1 := box (Step.of_calm (F := F) hc1)
    clear hv hc1
    obtain ⟨E1, hE1⟩ : ∃ E, D = E := ⟨_, rfl⟩
    rw [hE1] at H1
    have hcl := box (show cleared D whead = (0, E1) by rw [hcl.out, hE1])
    clear hE1
    obtain ⟨F1, hF1⟩ : ∃ G, F = G := ⟨_, rfl⟩
    rw [hF1] at H1
    have S1 : Box (Step F w F1 w1) := by rw [hF1] at S1 ⊢; exact S1
    clear hF1
    go_wp2_with fail
    refine (Create_ok wslots w1 H1.out).mono ?_
    rintro e w2 ⟨b, hb, h2⟩
    obtain ⟨⟨r2, E2⟩, hr2⟩ : ∃ r, E1.create wslots b = r := ⟨_, rfl⟩
    obtain ⟨rfl, F2, h2, hs2⟩ := h2.at hr2
    have H2 := box h2
    have S2 := box (S1.out.trans hs2)
    have Hr2 := box hr2
    have Hb := box (show w.heap.size ≤ b from Nat.le_trans S1.out.keeps.size hb)
    clear h2 hs2 hb hr2
    rcases err_cases r2 with rfl | ⟨x1, x2, x3⟩
    · obtain ⟨hmk, hcv⟩ := made_string w2 96 96 rfl (by decide)
      have hcm := box ((Calm.refl w2).alloc (.cells (madeCells #[Value.int .u8 0] 96) 5))
      go_wp2_with fail
      refine (Write_ok wslots (noughts 96) 0 _ (H2.out.calm hcm.out) (by omega) (by decide)).mono ?_
      intro e w3 h3
      obtain ⟨⟨r3, E3⟩, hr3⟩ : ∃ r, E2.write wslots 0 (noughts 96) = r := ⟨_, rfl⟩
      obtain ⟨rfl, F3, h3, hs3⟩ := h3.at hr3
      have H3 := box h3
      have S3 := box ((S2.out.calm hcm.out).trans hs3)
      have hw := box (show wnew D b = (r3, E3) by unfold wnew; rw [hcl.out]; simp only [ne_eq, not_true, if_false]; rw [Hr2.out]; simp only [not_true, if_false]; exact hr3)
      clear h3 hs3 hr3 hmk hcv
      rcases err_cases r3 with rfl | ⟨x1, x2, x3⟩
      · have hnew := box (heap_new w3 (.cells #[ptrTo p, .int .i64 t] 92))
        go_wp2_with fail
        go_ret2
        refine ⟨b, _, F3, Hb.out, ret_tup2 rfl (by rw [hw.out]; rfl), by rw [hw.out]; exact H3.out.calm ((Calm.refl w3).alloc _), S3.out.calm ((Calm.refl w3).alloc _), .inl ⟨by rw [hw.out], w3.heap.size, rfl, hnew.out, S3.out.keeps.size, fun hf => ?_⟩⟩
        have := H3.out.foot_lt _ hf
        omega
      · go_wp2_with fail
        go_ret2
        exact ⟨b, _, F3, Hb.out, ret_tup2 rfl (by rw [hw.out]; rfl), by rw [hw.out]; exact H3.out, S3.out, .inr ⟨by rw [hw.out]; exact x3.out, rfl⟩⟩
    · have hw := box (show wnew D b = (r2, E2) by unfold wnew; rw [hcl.out]; simp only [ne_eq, not_true, if_false]; rw [Hr2.out]; simp only [x3.out, not_false_eq_true, if_true])
      go_wp2_with fail
      go_ret2
      exact ⟨b, _, F2, Hb.out, ret_tup2 rfl (by rw [hw.out]; rfl), by rw [hw.out]; exact H2.out.mono (by omega), S2.out, .inr ⟨by rw [hw.out]; exact x3.out, rfl⟩⟩
  | cons x l =>
    have hcl0 := box (show cleared D whead = D.delete (x :: l) by rw [hclr.out, if_neg (by simp)])
    have hlen : (x :: l).length = l.length + 1 := rfl
    go_enter Try.func21, Try.ntmps21
    go_wp2_with fail
    refine hlist.out.mono ?_
    rintro e w0 ⟨v, rfl, hv, hc1, hfr⟩
    obtain ⟨la, lcap, rfl, _⟩ := hv.uni
    have Hv := box hv
    have H0 := box (H.out.calm hc1)
    have S0 := box (Step.of_calm (F := F) hc1)
    have hap := box (show Apart (.slice la (x :: l).length lcap) F from fun a n' c' e _ hf => by
      have := hfr a n' c' e
      have := H.out.foot_lt _ hf
      omega)
    clear hv hc1 hfr
    rw [hlen]
    go_wp2_with fail
    refine (Delete_ok (.slice la (l.length + 1) lcap) (x :: l) w0 H0.out (by omega) Hv.out hap.out (by have := Hnl.out; omega)).mono ?_
    intro e w1 h1
    obtain ⟨⟨r1, E1⟩, hr1⟩ : ∃ r, D.delete (x :: l) = r := ⟨_, rfl⟩
    obtain ⟨rfl, F1, h1, hs1⟩ := h1.at hr1
    have H1 := box h1
    have S1 := box (S0.out.trans hs1)
    have hcl1 := box (hcl0.out.trans hr1)
    clear h1 hs1 hr1
    rcases err_cases r1 with rfl | ⟨y1, y2, y3⟩
    · have hcl := hcl1
      go_wp2_with fail
      refine (Create_ok wslots w1 H1.out).mono ?_
      rintro e w2 ⟨b, hb, h2⟩
      obtain ⟨⟨r2, E2⟩, hr2⟩ : ∃ r, E1.create wslots b = r := ⟨_, rfl⟩
      obtain ⟨rfl, F2, h2, hs2⟩ := h2.at hr2
      have H2 := box h2
      have S2 := box (S1.out.trans hs2)
      have Hr2 := box hr2
      have Hb := box (show w.heap.size ≤ b from Nat.le_trans S1.out.keeps.size hb)
      clear h2 hs2 hb hr2
      rcases err_cases r2 with rfl | ⟨x1, x2, x3⟩
      · obtain ⟨hmk, hcv⟩ := made_string w2 96 96 rfl (by decide)
        have hcm := box ((Calm.refl w2).alloc (.cells (madeCells #[Value.int .u8 0] 96) 5))
        go_wp2_with fail
        refine (Write_ok wslots (noughts 96) 0 _ (H2.out.calm hcm.out) (by omega) (by decide)).mono ?_
        intro e w3 h3
        obtain ⟨⟨r3, E3⟩, hr3⟩ : ∃ r, E2.write wslots 0 (noughts 96) = r := ⟨_, rfl⟩
        obtain ⟨rfl, F3, h3, hs3⟩ := h3.at hr3
        have H3 := box h3
        have S3 := box ((S2.out.calm hcm.out).trans hs3)
        have hw := box (show wnew D b = (r3, E3) by unfold wnew; rw [hcl.out]; simp only [ne_eq, not_true, if_false]; rw [Hr2.out]; simp only [not_true, if_false]; exact hr3)
        clear h3 hs3 hr3 hmk hcv
        rcases err_cases r3 with rfl | ⟨x1, x2, x3⟩
        · have hnew := box (heap_new w3 (.cells #[ptrTo p, .int .i64 t] 92))
          go_wp2_with fail
          go_ret2
          refine ⟨b, _, F3, Hb.out, ret_tup2 rfl (by rw [hw.out]; rfl), by rw [hw.out]; exact H3.out.calm ((Calm.refl w3).alloc _), S3.out.calm ((Calm.refl w3).alloc _), .inl ⟨by rw [hw.out], w3.heap.size, rfl, hnew.out, S3.out.keeps.size, fun hf => ?_⟩⟩
          have := H3.out.foot_lt _ hf
          omega
        · go_wp2_with fail
          go_ret2
          exact ⟨b, _, F3, Hb.out, ret_tup2 rfl (by rw [hw.out]; rfl), by rw [hw.out]; exact H3.out, S3.out, .inr ⟨by rw [hw.out]; exact x3.out, rfl⟩⟩
      · have hw := box (show wnew D b = (r2, E2) by unfold wnew; rw [hcl.out]; simp only [ne_eq, not_true, if_false]; rw [Hr2.out]; simp only [x3.out, not_false_eq_true, if_true])
        go_wp2_with fail
        go_ret2
        exact ⟨b, _, F2, Hb.out, ret_tup2 rfl (by rw [hw.out]; rfl), by rw [hw.out]; exact H2.out.mono (by omega), S2.out, .inr ⟨by rw [hw.out]; exact x3.out, rfl⟩⟩
    · have hw := box (show ∀ b, wnew D b = (r1, E1) by intro b; unfold wnew; rw [hcl1.out]; simp only [ne_eq, y3.out, not_false_eq_true, if_true])
      go_wp2_with fail
      go_ret2
      exact ⟨w.heap.size, _, F1, Nat.le_refl _, ret_tup2 rfl (by rw [hw.out]; rfl), by rw [hw.out]; exact H1.out.mono (by omega), S1.out, .inr ⟨by rw [hw.out]; exact y3.out, rfl⟩⟩
end Go.Proofs.Ytbmhjojlbmbpkaa.wh
