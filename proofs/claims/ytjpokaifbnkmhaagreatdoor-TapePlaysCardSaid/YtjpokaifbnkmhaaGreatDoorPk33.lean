/- Lemmas for this claim. -/
import Derived.WalkLawsBesides
import Derived.Outline
import Derived.Test.YtjpokaifbnkmhaaGreatDoorPk32
set_option maxRecDepth 100000
namespace Go.Proofs.YtjpokaifbnkmhaaGreatDoor.rc
open Go.ChangeShapes Go.WideShapes Go.ChangeAt Go.RowKit Go.Shelf
open nm vs oc cr
theorem results_cell_tmp3 {fn : Func} {p u v : Tmp} {ty : TypeId} (h : fn.results = #[.cell p ty, .tmp u, .tmp v]) (tmps : Array Value) (P : Program) (w : World) :
  (results fn tmps).run P w =
   ((asAddr (tmps.getD p undef)).run P w).andThen fun a w₁ => ((loadVar ty a).run P w₁).andThen fun x w₂ => .ok (.tuple #[x, tmps.getD u undef, tmps.getD v undef]) w₂ := by
 simp only [results, h]
 simp [Sem.run_bind, Result.andThen]
theorem ret_msg3 {fn : Func} {p u v : Tmp} (h : fn.results = #[.cell p 62, .tmp u, .tmp v]) (tmps : Array Value) (w : World) (b : Nat) (cs : Array Value)
  (hp : tmps.getD p undef = .pointer (some ⟨b, 0, none⟩)) (hg : w.heap[b]? = some (.cells cs 62 (0, 0))) (hc : cs.size = 10) :
  (results fn tmps).run Tryz.prog w = .ok (.tuple #[.agg cs, tmps.getD u undef, tmps.getD v undef]) w := by
 have hload := run_loadVar_row (P := Tryz.prog) w b 62 62 cs (0, 0) _ hg Tryz.underlying62 rfl (by rw [msgSize, hc])
 rw [results_cell_tmp3 h, hp]
 simp [asAddr, hload, Result.andThen]
def GetIs (m : MsgS) (n c : Int) (w : World) (e : Ending) (w' : World) : Prop :=
 ∃ kv, e = .returned (.tuple #[.agg (msgA m kv), .int .i64 n, .int .i64 c]) ∧ StrsAt w' kv m.keys ∧ Calm w w'
def GetIs2 (m : MsgS) (n c : Int) (w : World) (e : Ending) (w' : World) : Prop :=
 ∃ kv, e = .returned (.tuple #[.agg (msgA m kv), .int .i64 n, .int .i64 c]) ∧ StrsAt w' kv m.keys ∧ Calm w w' ∧ ∀ a n c, kv = .slice (some a) n c → 0 < n → w.heap.size ≤ a.block
theorem seal_size {t u : ByteArray} (h : openSeal t = some u) : u.size ≤ t.size := by
 unfold openSeal at h
 split at h
 ·cases h
 ·cases h
  simp
theorem head_kinds (a : ByteArray) : a.toList = [] ∨ a.toList = [165] ∨ a.toList = [90] ∨ (a.toList.isEmpty = false ∧ (a.toList == [165]) = false ∧ (a.toList == [90]) = false) := by
 by_cases h0 : a.toList = []
 ·exact .inl h0
 ·by_cases h1 : a.toList = [165]
  ·exact .inr (.inl h1)
  ·by_cases h2 : a.toList = [90]
   ·exact .inr (.inr (.inl h2))
   ·exact .inr (.inr (.inr ⟨by rw [List.isEmpty_eq_false_iff]; exact h0, beq_eq_false_iff_ne.2 h1, beq_eq_false_iff_ne.2 h2⟩))
theorem of_list {a : ByteArray} {l : List UInt8} (h : a.toList = l) : a = ⟨l.toArray⟩ := ba_ext (by rw [← Lib.toList_data, h])
theorem toList_ne {a b : ByteArray} (h : a ≠ b) : (a.toList == b.toList) = false := beq_eq_false_iff_ne.2 (fun e => h (ba_ext (by rw [← Lib.toList_data, ← Lib.toList_data]; exact e)))
set_option maxHeartbeats 16000000 in
theorem Get_fresh (b : Nat) (s : ByteArray) (w : World) (ht : TabAt w b 1024) (hs : s.size ≤ 1000000) :
  Calls Tryz.prog 85 #[.pointer (some ⟨b, 0, none⟩), .string s] w (GetIs2 (getS RightP s).1 (getS RightP s).2.1 (getS RightP s).2.2 w) := by
 have Z0 := box (heap_new w (.cells zeroA 62))
 have C0 := box ((Calm.refl w).alloc (.cells zeroA 62))
 obtain ⟨⟨a, R1⟩, h1⟩ : ∃ r, (⟨s, 0⟩ : Rdr).take 1 = r := ⟨_, rfl⟩
 obtain ⟨⟨n, R2⟩, h2⟩ : ∃ r, R1.num 2 = r := ⟨_, rfl⟩
 obtain ⟨⟨t, R3⟩, h3⟩ : ∃ r, R2.take (max (n - 3) 0) = r := ⟨_, rfl⟩
 have l1 : R1.s.size ≤ 1000000 := Nat.le_trans (by have := take_left (⟨s, 0⟩ : Rdr) 1; rw [h1] at this; exact this) hs
 have l2 : R2.s.size ≤ 1000000 := Nat.le_trans (by have := num_left R1 2; rw [h2] at this; exact this) l1
 have lt : t.size ≤ 1000000 := by
  have : (R2.take (max (n - 3) 0)).1.size ≤ R2.s.size := by
   unfold Rdr.take
   split; exact Nat.zero_le _
   split; exact Nat.zero_le _
   split; exact Nat.zero_le _
   simp only [ByteArray.size_extract]; omega
  rw [h3] at this
  exact Nat.le_trans this l2
 have hn := num_small R1 2
 rw [h2] at hn
 obtain ⟨hn0, hn1⟩ := hn
 simp only at hn0 hn1
 have hget : getS RightP s = if a ≠ ⟨#[]⟩ ∧ a ≠ markC ∧ a ≠ blankC then ((zeroM, 0, 4) : MsgS × Int × Int) else if s.size < 3 then (zeroM, 0, 3) else if n < 3 ∨ (a = blankC ∧ 1024 < n) then (zeroM, 0, 4) else if R3.e ≠ 0 then (zeroM, 0, 3) else if a = blankC ∧ t ≠ zerosB t.size then (zeroM, 0, 4) else if a = blankC then (fillM n.toNat, n, 0) else match openSeal t with
   | none => (zeroM, 0, 5)
   | some u => if (openS u).2.end_ = 0 ∧ (openS u).1.kind ≠ 0 ∧ RightP (openS u).1 then ((openS u).1, n, 0) else (zeroM, 0, 4) := by
  unfold getS
  simp only [h1, h2, h3]
  rfl
 have c1 := box (fun (rb : Nat) (W : World) (h : RdrAt W rb (⟨s, 0⟩ : Rdr)) => (show Calls Tryz.prog 132 #[.pointer (some ⟨rb, 0, none⟩), .int .i64 1] W (RdrDone (.string a) rb R1 W) from by
  have := Take_any rb (⟨s, 0⟩ : Rdr) 1 W h (Nat.le_trans hs (by decide))
  rwa [h1] at this))
 have c2 := box (fun (rb : Nat) (W : World) (h : RdrAt W rb R1) => (show Calls Tryz.prog 133 #[.pointer (some ⟨rb, 0, none⟩), .int .i64 2] W (RdrDone (.int .i64 n) rb R2 W) from by
  have := RNum_any rb R1 2 W h (Nat.le_trans l1 (by decide))
  rwa [h2] at this))
 have c3 := box (fun (rb : Nat) (W : World) (h : RdrAt W rb R2) => (show Calls Tryz.prog 132 #[.pointer (some ⟨rb, 0, none⟩), .int .i64 (max (n - 3) 0)] W (RdrDone (.string t) rb R3 W) from by
  have := Take_any rb R2 (max (n - 3) 0) W h (Nat.le_trans l2 (by decide))
  rwa [h3] at this))
 have cE := box (fun (rb : Nat) (W : World) (h : RdrAt W rb R3) => Err_any rb R3 W h)
 have cZ := box (fun (k : Nat) (W : World) (hk : k ≤ 1000000) => noughts_any k W (by omega))
 have cO := box (fun (W : World) (hW : Calm w W) => Open_any b t W (heap_calm hW ht) lt)
 have cI := box (fun (u : ByteArray) (W : World) (hu : u.size ≤ 1000000) => opened_any u W (by omega))
 have hwn : IntKind.i64.wrap (n - 3) = n - 3 := IntWalk.i64_in _ (by omega)
 have Hget := box hget
 clear h1 h2 h3 l1 l2 ht hs hget
 go_enter Tryz.func85, Tryz.ntmps85
 go_wp2_with fail
 refine (New_any s _).mono ?_
 rintro e w1 ⟨rb, hrb, rfl, hr1, hc1⟩
 simp only [World.size_alloc] at hrb
 have X0 := box hr1
 have W1 := box (C0.out.trans hc1)
 have Z1 := box (heap_calm hc1 Z0.out)
 have Hrb := box hrb
 clear hr1 hc1 hrb
 go_wp2_with fail
 refine (c1.out rb _ X0.out).mono ?_
 rintro e w2 ⟨rfl, hr, hk⟩
 have X1 := box hr
 have W2 := box (Below.trans W1.out (hk.below (B := w.heap.size) W1.out.size (fun x e => by have := Hrb.out; omega)))
 have Z2 := box ((hk.block _ (heap_lt Z1.out) (fun e => by have := Hrb.out; omega)).trans Z1.out)
 clear hr hk
 go_wp2_with fail
 refine (c2.out rb _ X1.out).mono ?_
 rintro e w3 ⟨rfl, hr, hk⟩
 have X2 := box hr
 have W3 := box (Below.trans W2.out (hk.below (B := w.heap.size) W2.out.size (fun x e => by have := Hrb.out; omega)))
 have Z3 := box ((hk.block _ (heap_lt Z2.out) (fun e => by have := Hrb.out; omega)).trans Z2.out)
 clear hr hk
 go_wp2_with fail
 refine (c3.out rb _ X2.out).mono ?_
 rintro e w4 ⟨rfl, hr, hk⟩
 have X3 := box hr
 have W4 := box (Below.trans W3.out (hk.below (B := w.heap.size) W3.out.size (fun x e => by have := Hrb.out; omega)))
 have Z4 := box ((hk.block _ (heap_lt Z3.out) (fun e => by have := Hrb.out; omega)).trans Z3.out)
 clear hr hk
 have z0 := cell_of Z4.out 0
 have z1 := cell_of Z4.out 1
 have z2 := cell_of Z4.out 2
 have z3 := cell_of Z4.out 3
 have z4 := cell_of Z4.out 4
 have z5 := cell_of Z4.out 5
 have z6 := cell_of Z4.out 6
 have z7 := cell_of Z4.out 7
 have z8 := cell_of Z4.out 8
 have z9 := cell_of Z4.out 9
 have f0 := free_of Z4.out 0
 have f1 := free_of Z4.out 1
 have f2 := free_of Z4.out 2
 have f3 := free_of Z4.out 3
 have f4 := free_of Z4.out 4
 have f5 := free_of Z4.out 5
 have f6 := free_of Z4.out 6
 have f7 := free_of Z4.out 7
 have f8 := free_of Z4.out 8
 have f9 := free_of Z4.out 9
 have hlz := heap_lt Z4.out
 clear X0 X1 X2 W1 W2 W3 Z0 Z1 Z2 Z3 C0 c1 c2 c3
 obtain ⟨k, rfl⟩ : ∃ k : Nat, n = k := ⟨n.toNat, by omega⟩
 clear hn0 hn1 hwn
 rcases head_kinds a with h0 | h0 | h0 | ⟨h0, h1, h2⟩
 ·have ea : a = ⟨#[]⟩ := of_list h0
  have hg0 := Hget.out
  rw [if_neg (fun h => h.1 ea)] at hg0
  have Hea := box ea
  have hget := box hg0
  clear ea Hget hg0
  have hnb := box (show ¬ a = blankC by rw [Hea.out]; decide)
  by_cases hs3 : s.size < 3
  ·have Hg := box (show getS RightP s = (zeroM, 0, 3) by rw [hget.out, if_pos hs3])
   have Hfin := box (put_msg (w := w4) (b := w.heap.size) (Z4.out) rfl (.int .i64 0) (.int .i64 0) (.int .i64 0) (.int .i64 0) (.int .i64 0) (.int .i64 0) (.string ⟨#[]⟩) (.string ⟨#[]⟩) (.string ⟨#[]⟩) (.slice none 0 0))
   have Cfin := box (calm_put_msg (a := w) (w := w4) (W4.out) (b := w.heap.size) (Nat.le_refl _) (.int .i64 0) (.int .i64 0) (.int .i64 0) (.int .i64 0) (.int .i64 0) (.int .i64 0) (.string ⟨#[]⟩) (.string ⟨#[]⟩) (.string ⟨#[]⟩) (.slice none 0 0))
   go_wp2_with fail
   (try simp only [Exit.inBlock, Exit.then])
   refine bodyPost_ret (ret_msg3 rfl _ _ w.heap.size _ rfl Hfin.out rfl) rfl ?_
   unfold GetIs2
   rw [Hg.out]
   exact ⟨.slice none 0 0, rfl, .inl ⟨rfl, none, 0, rfl⟩, Cfin.out, fun _ _ _ h => by cases h⟩
  have hget := box (hget.out.trans (if_neg hs3))
  by_cases hn3 : (k : Int) < 3
  ·have Hg := box (show getS RightP s = (zeroM, 0, 4) by rw [hget.out, if_pos (.inl hn3)])
   have Hfin := box (put_msg (w := w4) (b := w.heap.size) (Z4.out) rfl (.int .i64 0) (.int .i64 0) (.int .i64 0) (.int .i64 0) (.int .i64 0) (.int .i64 0) (.string ⟨#[]⟩) (.string ⟨#[]⟩) (.string ⟨#[]⟩) (.slice none 0 0))
   have Cfin := box (calm_put_msg (a := w) (w := w4) (W4.out) (b := w.heap.size) (Nat.le_refl _) (.int .i64 0) (.int .i64 0) (.int .i64 0) (.int .i64 0) (.int .i64 0) (.int .i64 0) (.string ⟨#[]⟩) (.string ⟨#[]⟩) (.string ⟨#[]⟩) (.slice none 0 0))
   go_wp2_with fail
   (try simp only [Exit.inBlock, Exit.then])
   refine bodyPost_ret (ret_msg3 rfl _ _ w.heap.size _ rfl Hfin.out rfl) rfl ?_
   unfold GetIs2
   rw [Hg.out]
   exact ⟨.slice none 0 0, rfl, .inl ⟨rfl, none, 0, rfl⟩, Cfin.out, fun _ _ _ h => by cases h⟩
  have hget := box (hget.out.trans (if_neg (fun h => h.elim hn3 fun h => hnb.out h.1)))
  have hn3a : 3 ≤ (k : Int) := by omega
  clear hn3
  by_cases he : R3.e = 0
  ·have hget := box (hget.out.trans (if_neg (fun h => h he)))
   have HE := box (fun (W : World) (h : RdrAt W rb R3) => (show Calls Tryz.prog 134 #[.pointer (some ⟨rb, 0, none⟩)] W fun e w' => e = .returned (.int .i64 0) ∧ W = w' from by
    have := cE.out rb W h
    rwa [he] at this))
   clear he
   have hget := box (hget.out.trans ((if_neg (fun h => hnb.out h.1)).trans (if_neg hnb.out)))
   have hO := box (cO.out w4 W4.out)
   cases hos : openSeal t with
   | none =>
    rw [hos] at hget hO
    have Hg := box hget.out
    clear hos
    go_wp2_with fail
    refine (HE.out _ X3.out).mono ?_
    rintro e w' ⟨rfl, rfl⟩
    go_wp2_with fail
    refine hO.out.mono ?_
    rintro e w5 ⟨rfl, hc5⟩
    have Z5 := box (heap_calm hc5 Z4.out)
    have W5 := box (Calm.trans W4.out hc5)
    clear hc5
    clear z0 z1 z2 z3 z4 z5 z6 z7 z8 z9 f0 f1 f2 f3 f4 f5 f6 f7 f8 f9 hlz
    have z0 := cell_of Z5.out 0
    have z1 := cell_of Z5.out 1
    have z2 := cell_of Z5.out 2
    have z3 := cell_of Z5.out 3
    have z4 := cell_of Z5.out 4
    have z5 := cell_of Z5.out 5
    have z6 := cell_of Z5.out 6
    have z7 := cell_of Z5.out 7
    have z8 := cell_of Z5.out 8
    have z9 := cell_of Z5.out 9
    have f0 := free_of Z5.out 0
    have f1 := free_of Z5.out 1
    have f2 := free_of Z5.out 2
    have f3 := free_of Z5.out 3
    have f4 := free_of Z5.out 4
    have f5 := free_of Z5.out 5
    have f6 := free_of Z5.out 6
    have f7 := free_of Z5.out 7
    have f8 := free_of Z5.out 8
    have f9 := free_of Z5.out 9
    have hlz := heap_lt Z5.out
    unfold openV
    have Hfin := box (put_msg (w := w5) (b := w.heap.size) (Z5.out) rfl (.int .i64 0) (.int .i64 0) (.int .i64 0) (.int .i64 0) (.int .i64 0) (.int .i64 0) (.string ⟨#[]⟩) (.string ⟨#[]⟩) (.string ⟨#[]⟩) (.slice none 0 0))
    have Cfin := box (calm_put_msg (a := w) (w := w5) (W5.out) (b := w.heap.size) (Nat.le_refl _) (.int .i64 0) (.int .i64 0) (.int .i64 0) (.int .i64 0) (.int .i64 0) (.int .i64 0) (.string ⟨#[]⟩) (.string ⟨#[]⟩) (.string ⟨#[]⟩) (.slice none 0 0))
    go_wp2_with fail
    (try simp only [Exit.inBlock, Exit.then])
    refine bodyPost_ret (ret_msg3 rfl _ _ w.heap.size _ rfl Hfin.out rfl) rfl ?_
    unfold GetIs2
    rw [Hg.out]
    exact ⟨.slice none 0 0, rfl, .inl ⟨rfl, none, 0, rfl⟩, Cfin.out, fun _ _ _ h => by cases h⟩
   | some u =>
    rw [hos] at hget hO
    have hI := box (fun W => cI.out u W (Nat.le_trans (seal_size hos) lt))
    have Hdef := box (show OpenOk u ↔ (openS u).2.end_ = 0 ∧ (openS u).1.kind ≠ 0 ∧ RightP (openS u).1 from Iff.rfl)
    clear hos
    obtain ⟨q, hq⟩ : ∃ q, decide (OpenOk u) = q := ⟨_, rfl⟩
    have Hq := box hq
    have hI2 := box (fun W => (hI.out W).mono fun e w' h => (show ∃ kv, e = .returned (.tuple #[.agg (msgA (openS u).1 kv), .bool q]) ∧ StrsAt w' kv (openS u).1.keys ∧ Calm W w' ∧ ∀ a n c, kv = .slice (some a) n c → 0 < n → W.heap.size ≤ a.block from by obtain ⟨kv, h1, h2⟩ := h; rw [hq] at h1; exact ⟨kv, h1, h2⟩))
    clear hq hI
    have hg2 := hget.out
    obtain ⟨⟨v1, v2, v3, v4, v5, v6, v7, v8, v9, L⟩, hx⟩ : ∃ x, (openS u).1 = x := ⟨_, rfl⟩
    simp only [hx] at hI2 Hdef hg2
    have hget := box hg2
    clear hx hg2
    go_wp2_with fail
    refine (HE.out _ X3.out).mono ?_
    rintro e w' ⟨rfl, rfl⟩
    go_wp2_with fail
    refine hO.out.mono ?_
    rintro e w5 ⟨rfl, hc5⟩
    have Z5 := box (heap_calm hc5 Z4.out)
    have W5 := box (Calm.trans W4.out hc5)
    clear hc5
    clear z0 z1 z2 z3 z4 z5 z6 z7 z8 z9 f0 f1 f2 f3 f4 f5 f6 f7 f8 f9 hlz
    unfold openV
    go_wp2_with fail
    refine (hI2.out _).mono ?_
    rintro e w6 ⟨kv, rfl, hst, hc6, hfr⟩
    obtain ⟨ka, kcap, rfl, _⟩ := hst.uni
    have S6 := box hst
    have FR := box (show ∀ a n c, Value.slice ka L.length kcap = .slice (some a) n c → 0 < n → w.heap.size < a.block from fun a n c e hn => by have := hfr a n c e hn; have := heap_lt Z5.out; omega)
    have Z6 := box (heap_calm hc6 Z5.out)
    have W6 := box (Calm.trans W5.out hc6)
    clear hc6 hst hfr
    have Z7 := box (heap_old w6 (.cells (msgA ⟨v1, v2, v3, v4, v5, v6, v7, v8, v9, L⟩ (.slice ka L.length kcap)) 62) Z6.out)
    have W7 := box (Calm.alloc W6.out (.cells (msgA ⟨v1, v2, v3, v4, v5, v6, v7, v8, v9, L⟩ (.slice ka L.length kcap)) 62))
    have S7 := box (S6.out.calm ((Calm.refl w6).alloc (.cells (msgA ⟨v1, v2, v3, v4, v5, v6, v7, v8, v9, L⟩ (.slice ka L.length kcap)) 62)))
    have N7 := box (heap_new w6 (.cells (msgA ⟨v1, v2, v3, v4, v5, v6, v7, v8, v9, L⟩ (.slice ka L.length kcap)) 62))
    have hl6 := heap_lt Z6.out
    cases q
    ·have Hg := box (show getS RightP s = (zeroM, 0, 4) by rw [hget.out, if_neg (fun h => of_decide_eq_false Hq.out (Hdef.out.2 h))])
     go_upto_region 23 with (fail)
     obtain ⟨w7, hw7⟩ : ∃ X, w6.alloc (.cells (msgA ⟨v1, v2, v3, v4, v5, v6, v7, v8, v9, L⟩ (.slice ka L.length kcap)) 62) = X := ⟨_, rfl⟩
     rw [hw7] at Z7 W7 S7 N7
     rw [hw7]
     clear hw7
     have z0 := cell_of Z7.out 0
     have z1 := cell_of Z7.out 1
     have z2 := cell_of Z7.out 2
     have z3 := cell_of Z7.out 3
     have z4 := cell_of Z7.out 4
     have z5 := cell_of Z7.out 5
     have z6 := cell_of Z7.out 6
     have z7 := cell_of Z7.out 7
     have z8 := cell_of Z7.out 8
     have z9 := cell_of Z7.out 9
     have f0 := free_of Z7.out 0
     have f1 := free_of Z7.out 1
     have f2 := free_of Z7.out 2
     have f3 := free_of Z7.out 3
     have f4 := free_of Z7.out 4
     have f5 := free_of Z7.out 5
     have f6 := free_of Z7.out 6
     have f7 := free_of Z7.out 7
     have f8 := free_of Z7.out 8
     have f9 := free_of Z7.out 9
     have hlz := heap_lt Z7.out
     have Hfin := box (put_msg (w := w7) (b := w.heap.size) (Z7.out) rfl (.int .i64 0) (.int .i64 0) (.int .i64 0) (.int .i64 0) (.int .i64 0) (.int .i64 0) (.string ⟨#[]⟩) (.string ⟨#[]⟩) (.string ⟨#[]⟩) (.slice none 0 0))
     have Cfin := box (calm_put_msg (a := w) (w := w7) (W7.out) (b := w.heap.size) (Nat.le_refl _) (.int .i64 0) (.int .i64 0) (.int .i64 0) (.int .i64 0) (.int .i64 0) (.int .i64 0) (.string ⟨#[]⟩) (.string ⟨#[]⟩) (.string ⟨#[]⟩) (.slice none 0 0))
     go_wp2_with fail
     (try simp only [Exit.inBlock, Exit.then])
     refine bodyPost_ret (ret_msg3 rfl _ _ w.heap.size _ rfl Hfin.out rfl) rfl ?_
     unfold GetIs2
     rw [Hg.out]
     exact ⟨.slice none 0 0, rfl, .inl ⟨rfl, none, 0, rfl⟩, Cfin.out, fun _ _ _ h => by cases h⟩
    ·have Hg := box (show getS RightP s = (⟨v1, v2, v3, v4, v5, v6, v7, v8, v9, L⟩, (k : Int), 0) by rw [hget.out, if_pos (Hdef.out.1 (of_decide_eq_true Hq.out))])
     go_upto_region 24 with (fail)
     obtain ⟨w7, hw7⟩ : ∃ X, w6.alloc (.cells (msgA ⟨v1, v2, v3, v4, v5, v6, v7, v8, v9, L⟩ (.slice ka L.length kcap)) 62) = X := ⟨_, rfl⟩
     rw [hw7] at Z7 W7 S7 N7
     rw [hw7]
     clear hw7
     have z0 := cell_of Z7.out 0
     have z1 := cell_of Z7.out 1
     have z2 := cell_of Z7.out 2
     have z3 := cell_of Z7.out 3
     have z4 := cell_of Z7.out 4
     have z5 := cell_of Z7.out 5
     have z6 := cell_of Z7.out 6
     have z7 := cell_of Z7.out 7
     have z8 := cell_of Z7.out 8
     have z9 := cell_of Z7.out 9
     have f0 := free_of Z7.out 0
     have f1 := free_of Z7.out 1
     have f2 := free_of Z7.out 2
     have f3 := free_of Z7.out 3
     have f4 := free_of Z7.out 4
     have f5 := free_of Z7.out 5
     have f6 := free_of Z7.out 6
     have f7 := free_of Z7.out 7
     have f8 := free_of Z7.out 8
     have f9 := free_of Z7.out 9
     have hlz := heap_lt Z7.out
     have n0 := cell_of N7.out 0
     have n1 := cell_of N7.out 1
     have n2 := cell_of N7.out 2
     have n3 := cell_of N7.out 3
     have n4 := cell_of N7.out 4
     have n5 := cell_of N7.out 5
     have n6 := cell_of N7.out 6
     have n7 := cell_of N7.out 7
     have n8 := cell_of N7.out 8
     have n9 := cell_of N7.out 9
     have hn7 := heap_lt N7.out
     have Hfin := box (put_msg (w := w7) (b := w.heap.size) (Z7.out) rfl (.int .i64 v1) (.int .i64 v2) (.int .i64 v3) (.int .i64 v4) (.int .i64 v5) (.int .i64 v6) (.string v7) (.string v8) (.string v9) (.slice ka L.length kcap))
     have Cfin := box (calm_put_msg (a := w) (w := w7) (W7.out) (b := w.heap.size) (Nat.le_refl _) (.int .i64 v1) (.int .i64 v2) (.int .i64 v3) (.int .i64 v4) (.int .i64 v5) (.int .i64 v6) (.string v7) (.string v8) (.string v9) (.slice ka L.length kcap))
     have Hk := box (strs_keep S7.out (keeps_put_msg (w := w7) (Keeps.refl (fun b => b = w.heap.size) _) (b := w.heap.size) rfl (.int .i64 v1) (.int .i64 v2) (.int .i64 v3) (.int .i64 v4) (.int .i64 v5) (.int .i64 v6) (.string v7) (.string v8) (.string v9) (.slice ka L.length kcap)) (fun a n c e hn hf => by have := FR.out a n c e hn; omega))
     go_wp2_with fail
     (try simp only [Exit.inBlock, Exit.then])
     refine bodyPost_ret (ret_msg3 rfl _ _ w.heap.size _ rfl Hfin.out rfl) rfl ?_
     unfold GetIs2
     rw [Hg.out]
     exact ⟨.slice ka L.length kcap, rfl, Hk.out, Cfin.out, fun a n c e hn => Nat.le_of_lt (FR.out a n c e hn)⟩
  ·have Hg := box (show getS RightP s = (zeroM, 0, 3) by rw [hget.out, if_pos he])
   have e1 : (R3.e == 0) = false := beq_eq_false_iff_ne.2 he
   have e2 : (R3.e != 0) = true := by rw [bne, e1]; rfl
   have HE := box (fun (W : World) (h : RdrAt W rb R3) => cE.out rb W h)
   clear he
   go_wp2_with fail
   refine (HE.out _ X3.out).mono ?_
   rintro e w' ⟨rfl, rfl⟩
   have Hfin := box (put_msg (w := w4) (b := w.heap.size) (Z4.out) rfl (.int .i64 0) (.int .i64 0) (.int .i64 0) (.int .i64 0) (.int .i64 0) (.int .i64 0) (.string ⟨#[]⟩) (.string ⟨#[]⟩) (.string ⟨#[]⟩) (.slice none 0 0))
   have Cfin := box (calm_put_msg (a := w) (w := w4) (W4.out) (b := w.heap.size) (Nat.le_refl _) (.int .i64 0) (.int .i64 0) (.int .i64 0) (.int .i64 0) (.int .i64 0) (.int .i64 0) (.string ⟨#[]⟩) (.string ⟨#[]⟩) (.string ⟨#[]⟩) (.slice none 0 0))
   go_wp2_with fail
   (try simp only [Exit.inBlock, Exit.then])
   refine bodyPost_ret (ret_msg3 rfl _ _ w.heap.size _ rfl Hfin.out rfl) rfl ?_
   unfold GetIs2
   rw [Hg.out]
   exact ⟨.slice none 0 0, rfl, .inl ⟨rfl, none, 0, rfl⟩, Cfin.out, fun _ _ _ h => by cases h⟩
 ·have ea : a = markC := of_list h0
  have hg0 := Hget.out
  rw [if_neg (fun h => h.2.1 ea)] at hg0
  have Hea := box ea
  have hget := box hg0
  clear ea Hget hg0
  have hnb := box (show ¬ a = blankC by rw [Hea.out]; decide)
  by_cases hs3 : s.size < 3
  ·have Hg := box (show getS RightP s = (zeroM, 0, 3) by rw [hget.out, if_pos hs3])
   have Hfin := box (put_msg (w := w4) (b := w.heap.size) (Z4.out) rfl (.int .i64 0) (.int .i64 0) (.int .i64 0) (.int .i64 0) (.int .i64 0) (.int .i64 0) (.string ⟨#[]⟩) (.string ⟨#[]⟩) (.string ⟨#[]⟩) (.slice none 0 0))
   have Cfin := box (calm_put_msg (a := w) (w := w4) (W4.out) (b := w.heap.size) (Nat.le_refl _) (.int .i64 0) (.int .i64 0) (.int .i64 0) (.int .i64 0) (.int .i64 0) (.int .i64 0) (.string ⟨#[]⟩) (.string ⟨#[]⟩) (.string ⟨#[]⟩) (.slice none 0 0))
   go_wp2_with fail
   (try simp only [Exit.inBlock, Exit.then])
   refine bodyPost_ret (ret_msg3 rfl _ _ w.heap.size _ rfl Hfin.out rfl) rfl ?_
   unfold GetIs2
   rw [Hg.out]
   exact ⟨.slice none 0 0, rfl, .inl ⟨rfl, none, 0, rfl⟩, Cfin.out, fun _ _ _ h => by cases h⟩
  have hget := box (hget.out.trans (if_neg hs3))
  by_cases hn3 : (k : Int) < 3
  ·have Hg := box (show getS RightP s = (zeroM, 0, 4) by rw [hget.out, if_pos (.inl hn3)])
   have Hfin := box (put_msg (w := w4) (b := w.heap.size) (Z4.out) rfl (.int .i64 0) (.int .i64 0) (.int .i64 0) (.int .i64 0) (.int .i64 0) (.int .i64 0) (.string ⟨#[]⟩) (.string ⟨#[]⟩) (.string ⟨#[]⟩) (.slice none 0 0))
   have Cfin := box (calm_put_msg (a := w) (w := w4) (W4.out) (b := w.heap.size) (Nat.le_refl _) (.int .i64 0) (.int .i64 0) (.int .i64 0) (.int .i64 0) (.int .i64 0) (.int .i64 0) (.string ⟨#[]⟩) (.string ⟨#[]⟩) (.string ⟨#[]⟩) (.slice none 0 0))
   go_wp2_with fail
   (try simp only [Exit.inBlock, Exit.then])
   refine bodyPost_ret (ret_msg3 rfl _ _ w.heap.size _ rfl Hfin.out rfl) rfl ?_
   unfold GetIs2
   rw [Hg.out]
   exact ⟨.slice none 0 0, rfl, .inl ⟨rfl, none, 0, rfl⟩, Cfin.out, fun _ _ _ h => by cases h⟩
  have hget := box (hget.out.trans (if_neg (fun h => h.elim hn3 fun h => hnb.out h.1)))
  have hn3a : 3 ≤ (k : Int) := by omega
  clear hn3
  by_cases he : R3.e = 0
  ·have hget := box (hget.out.trans (if_neg (fun h => h he)))
   have HE := box (fun (W : World) (h : RdrAt W rb R3) => (show Calls Tryz.prog 134 #[.pointer (some ⟨rb, 0, none⟩)] W fun e w' => e = .returned (.int .i64 0) ∧ W = w' from by
    have := cE.out rb W h
    rwa [he] at this))
   clear he
   have hget := box (hget.out.trans ((if_neg (fun h => hnb.out h.1)).trans (if_neg hnb.out)))
   have hO := box (cO.out w4 W4.out)
   cases hos : openSeal t with
   | none =>
    rw [hos] at hget hO
    have Hg := box hget.out
    clear hos
    go_wp2_with fail
    refine (HE.out _ X3.out).mono ?_
    rintro e w' ⟨rfl, rfl⟩
    go_wp2_with fail
    refine hO.out.mono ?_
    rintro e w5 ⟨rfl, hc5⟩
    have Z5 := box (heap_calm hc5 Z4.out)
    have W5 := box (Calm.trans W4.out hc5)
    clear hc5
    clear z0 z1 z2 z3 z4 z5 z6 z7 z8 z9 f0 f1 f2 f3 f4 f5 f6 f7 f8 f9 hlz
    have z0 := cell_of Z5.out 0
    have z1 := cell_of Z5.out 1
    have z2 := cell_of Z5.out 2
    have z3 := cell_of Z5.out 3
    have z4 := cell_of Z5.out 4
    have z5 := cell_of Z5.out 5
    have z6 := cell_of Z5.out 6
    have z7 := cell_of Z5.out 7
    have z8 := cell_of Z5.out 8
    have z9 := cell_of Z5.out 9
    have f0 := free_of Z5.out 0
    have f1 := free_of Z5.out 1
    have f2 := free_of Z5.out 2
    have f3 := free_of Z5.out 3
    have f4 := free_of Z5.out 4
    have f5 := free_of Z5.out 5
    have f6 := free_of Z5.out 6
    have f7 := free_of Z5.out 7
    have f8 := free_of Z5.out 8
    have f9 := free_of Z5.out 9
    have hlz := heap_lt Z5.out
    unfold openV
    have Hfin := box (put_msg (w := w5) (b := w.heap.size) (Z5.out) rfl (.int .i64 0) (.int .i64 0) (.int .i64 0) (.int .i64 0) (.int .i64 0) (.int .i64 0) (.string ⟨#[]⟩) (.string ⟨#[]⟩) (.string ⟨#[]⟩) (.slice none 0 0))
    have Cfin := box (calm_put_msg (a := w) (w := w5) (W5.out) (b := w.heap.size) (Nat.le_refl _) (.int .i64 0) (.int .i64 0) (.int .i64 0) (.int .i64 0) (.int .i64 0) (.int .i64 0) (.string ⟨#[]⟩) (.string ⟨#[]⟩) (.string ⟨#[]⟩) (.slice none 0 0))
    go_wp2_with fail
    (try simp only [Exit.inBlock, Exit.then])
    refine bodyPost_ret (ret_msg3 rfl _ _ w.heap.size _ rfl Hfin.out rfl) rfl ?_
    unfold GetIs2
    rw [Hg.out]
    exact ⟨.slice none 0 0, rfl, .inl ⟨rfl, none, 0, rfl⟩, Cfin.out, fun _ _ _ h => by cases h⟩
   | some u =>
    rw [hos] at hget hO
    have hI := box (fun W => cI.out u W (Nat.le_trans (seal_size hos) lt))
    have Hdef := box (show OpenOk u ↔ (openS u).2.end_ = 0 ∧ (openS u).1.kind ≠ 0 ∧ RightP (openS u).1 from Iff.rfl)
    clear hos
    obtain ⟨q, hq⟩ : ∃ q, decide (OpenOk u) = q := ⟨_, rfl⟩
    have Hq := box hq
    have hI2 := box (fun W => (hI.out W).mono fun e w' h => (show ∃ kv, e = .returned (.tuple #[.agg (msgA (openS u).1 kv), .bool q]) ∧ StrsAt w' kv (openS u).1.keys ∧ Calm W w' ∧ ∀ a n c, kv = .slice (some a) n c → 0 < n → W.heap.size ≤ a.block from by obtain ⟨kv, h1, h2⟩ := h; rw [hq] at h1; exact ⟨kv, h1, h2⟩))
    clear hq hI
    have hg2 := hget.out
    obtain ⟨⟨v1, v2, v3, v4, v5, v6, v7, v8, v9, L⟩, hx⟩ : ∃ x, (openS u).1 = x := ⟨_, rfl⟩
    simp only [hx] at hI2 Hdef hg2
    have hget := box hg2
    clear hx hg2
    go_wp2_with fail
    refine (HE.out _ X3.out).mono ?_
    rintro e w' ⟨rfl, rfl⟩
    go_wp2_with fail
    refine hO.out.mono ?_
    rintro e w5 ⟨rfl, hc5⟩
    have Z5 := box (heap_calm hc5 Z4.out)
    have W5 := box (Calm.trans W4.out hc5)
    clear hc5
    clear z0 z1 z2 z3 z4 z5 z6 z7 z8 z9 f0 f1 f2 f3 f4 f5 f6 f7 f8 f9 hlz
    unfold openV
    go_wp2_with fail
    refine (hI2.out _).mono ?_
    rintro e w6 ⟨kv, rfl, hst, hc6, hfr⟩
    obtain ⟨ka, kcap, rfl, _⟩ := hst.uni
    have S6 := box hst
    have FR := box (show ∀ a n c, Value.slice ka L.length kcap = .slice (some a) n c → 0 < n → w.heap.size < a.block from fun a n c e hn => by have := hfr a n c e hn; have := heap_lt Z5.out; omega)
    have Z6 := box (heap_calm hc6 Z5.out)
    have W6 := box (Calm.trans W5.out hc6)
    clear hc6 hst hfr
    have Z7 := box (heap_old w6 (.cells (msgA ⟨v1, v2, v3, v4, v5, v6, v7, v8, v9, L⟩ (.slice ka L.length kcap)) 62) Z6.out)
    have W7 := box (Calm.alloc W6.out (.cells (msgA ⟨v1, v2, v3, v4, v5, v6, v7, v8, v9, L⟩ (.slice ka L.length kcap)) 62))
    have S7 := box (S6.out.calm ((Calm.refl w6).alloc (.cells (msgA ⟨v1, v2, v3, v4, v5, v6, v7, v8, v9, L⟩ (.slice ka L.length kcap)) 62)))
    have N7 := box (heap_new w6 (.cells (msgA ⟨v1, v2, v3, v4, v5, v6, v7, v8, v9, L⟩ (.slice ka L.length kcap)) 62))
    have hl6 := heap_lt Z6.out
    cases q
    ·have Hg := box (show getS RightP s = (zeroM, 0, 4) by rw [hget.out, if_neg (fun h => of_decide_eq_false Hq.out (Hdef.out.2 h))])
     go_upto_region 23 with (fail)
     obtain ⟨w7, hw7⟩ : ∃ X, w6.alloc (.cells (msgA ⟨v1, v2, v3, v4, v5, v6, v7, v8, v9, L⟩ (.slice ka L.length kcap)) 62) = X := ⟨_, rfl⟩
     rw [hw7] at Z7 W7 S7 N7
     rw [hw7]
     clear hw7
     have z0 := cell_of Z7.out 0
     have z1 := cell_of Z7.out 1
     have z2 := cell_of Z7.out 2
     have z3 := cell_of Z7.out 3
     have z4 := cell_of Z7.out 4
     have z5 := cell_of Z7.out 5
     have z6 := cell_of Z7.out 6
     have z7 := cell_of Z7.out 7
     have z8 := cell_of Z7.out 8
     have z9 := cell_of Z7.out 9
     have f0 := free_of Z7.out 0
     have f1 := free_of Z7.out 1
     have f2 := free_of Z7.out 2
     have f3 := free_of Z7.out 3
     have f4 := free_of Z7.out 4
     have f5 := free_of Z7.out 5
     have f6 := free_of Z7.out 6
     have f7 := free_of Z7.out 7
     have f8 := free_of Z7.out 8
     have f9 := free_of Z7.out 9
     have hlz := heap_lt Z7.out
     have Hfin := box (put_msg (w := w7) (b := w.heap.size) (Z7.out) rfl (.int .i64 0) (.int .i64 0) (.int .i64 0) (.int .i64 0) (.int .i64 0) (.int .i64 0) (.string ⟨#[]⟩) (.string ⟨#[]⟩) (.string ⟨#[]⟩) (.slice none 0 0))
     have Cfin := box (calm_put_msg (a := w) (w := w7) (W7.out) (b := w.heap.size) (Nat.le_refl _) (.int .i64 0) (.int .i64 0) (.int .i64 0) (.int .i64 0) (.int .i64 0) (.int .i64 0) (.string ⟨#[]⟩) (.string ⟨#[]⟩) (.string ⟨#[]⟩) (.slice none 0 0))
     go_wp2_with fail
     (try simp only [Exit.inBlock, Exit.then])
     refine bodyPost_ret (ret_msg3 rfl _ _ w.heap.size _ rfl Hfin.out rfl) rfl ?_
     unfold GetIs2
     rw [Hg.out]
     exact ⟨.slice none 0 0, rfl, .inl ⟨rfl, none, 0, rfl⟩, Cfin.out, fun _ _ _ h => by cases h⟩
    ·have Hg := box (show getS RightP s = (⟨v1, v2, v3, v4, v5, v6, v7, v8, v9, L⟩, (k : Int), 0) by rw [hget.out, if_pos (Hdef.out.1 (of_decide_eq_true Hq.out))])
     go_upto_region 24 with (fail)
     obtain ⟨w7, hw7⟩ : ∃ X, w6.alloc (.cells (msgA ⟨v1, v2, v3, v4, v5, v6, v7, v8, v9, L⟩ (.slice ka L.length kcap)) 62) = X := ⟨_, rfl⟩
     rw [hw7] at Z7 W7 S7 N7
     rw [hw7]
     clear hw7
     have z0 := cell_of Z7.out 0
     have z1 := cell_of Z7.out 1
     have z2 := cell_of Z7.out 2
     have z3 := cell_of Z7.out 3
     have z4 := cell_of Z7.out 4
     have z5 := cell_of Z7.out 5
     have z6 := cell_of Z7.out 6
     have z7 := cell_of Z7.out 7
     have z8 := cell_of Z7.out 8
     have z9 := cell_of Z7.out 9
     have f0 := free_of Z7.out 0
     have f1 := free_of Z7.out 1
     have f2 := free_of Z7.out 2
     have f3 := free_of Z7.out 3
     have f4 := free_of Z7.out 4
     have f5 := free_of Z7.out 5
     have f6 := free_of Z7.out 6
     have f7 := free_of Z7.out 7
     have f8 := free_of Z7.out 8
     have f9 := free_of Z7.out 9
     have hlz := heap_lt Z7.out
     have n0 := cell_of N7.out 0
     have n1 := cell_of N7.out 1
     have n2 := cell_of N7.out 2
     have n3 := cell_of N7.out 3
     have n4 := cell_of N7.out 4
     have n5 := cell_of N7.out 5
     have n6 := cell_of N7.out 6
     have n7 := cell_of N7.out 7
     have n8 := cell_of N7.out 8
     have n9 := cell_of N7.out 9
     have hn7 := heap_lt N7.out
     have Hfin := box (put_msg (w := w7) (b := w.heap.size) (Z7.out) rfl (.int .i64 v1) (.int .i64 v2) (.int .i64 v3) (.int .i64 v4) (.int .i64 v5) (.int .i64 v6) (.string v7) (.string v8) (.string v9) (.slice ka L.length kcap))
     have Cfin := box (calm_put_msg (a := w) (w := w7) (W7.out) (b := w.heap.size) (Nat.le_refl _) (.int .i64 v1) (.int .i64 v2) (.int .i64 v3) (.int .i64 v4) (.int .i64 v5) (.int .i64 v6) (.string v7) (.string v8) (.string v9) (.slice ka L.length kcap))
     have Hk := box (strs_keep S7.out (keeps_put_msg (w := w7) (Keeps.refl (fun b => b = w.heap.size) _) (b := w.heap.size) rfl (.int .i64 v1) (.int .i64 v2) (.int .i64 v3) (.int .i64 v4) (.int .i64 v5) (.int .i64 v6) (.string v7) (.string v8) (.string v9) (.slice ka L.length kcap)) (fun a n c e hn hf => by have := FR.out a n c e hn; omega))
     go_wp2_with fail
     (try simp only [Exit.inBlock, Exit.then])
     refine bodyPost_ret (ret_msg3 rfl _ _ w.heap.size _ rfl Hfin.out rfl) rfl ?_
     unfold GetIs2
     rw [Hg.out]
     exact ⟨.slice ka L.length kcap, rfl, Hk.out, Cfin.out, fun a n c e hn => Nat.le_of_lt (FR.out a n c e hn)⟩
  ·have Hg := box (show getS RightP s = (zeroM, 0, 3) by rw [hget.out, if_pos he])
   have e1 : (R3.e == 0) = false := beq_eq_false_iff_ne.2 he
   have e2 : (R3.e != 0) = true := by rw [bne, e1]; rfl
   have HE := box (fun (W : World) (h : RdrAt W rb R3) => cE.out rb W h)
   clear he
   go_wp2_with fail
   refine (HE.out _ X3.out).mono ?_
   rintro e w' ⟨rfl, rfl⟩
   have Hfin := box (put_msg (w := w4) (b := w.heap.size) (Z4.out) rfl (.int .i64 0) (.int .i64 0) (.int .i64 0) (.int .i64 0) (.int .i64 0) (.int .i64 0) (.string ⟨#[]⟩) (.string ⟨#[]⟩) (.string ⟨#[]⟩) (.slice none 0 0))
   have Cfin := box (calm_put_msg (a := w) (w := w4) (W4.out) (b := w.heap.size) (Nat.le_refl _) (.int .i64 0) (.int .i64 0) (.int .i64 0) (.int .i64 0) (.int .i64 0) (.int .i64 0) (.string ⟨#[]⟩) (.string ⟨#[]⟩) (.string ⟨#[]⟩) (.slice none 0 0))
   go_wp2_with fail
   (try simp only [Exit.inBlock, Exit.then])
   refine bodyPost_ret (ret_msg3 rfl _ _ w.heap.size _ rfl Hfin.out rfl) rfl ?_
   unfold GetIs2
   rw [Hg.out]
   exact ⟨.slice none 0 0, rfl, .inl ⟨rfl, none, 0, rfl⟩, Cfin.out, fun _ _ _ h => by cases h⟩
 ·have ea : a = blankC := of_list h0
  have hg0 := Hget.out
  rw [if_neg (fun h => h.2.2 ea)] at hg0
  have Hea := box ea
  have hget := box hg0
  clear ea Hget hg0
  by_cases hs3 : s.size < 3
  ·have Hg := box (show getS RightP s = (zeroM, 0, 3) by rw [hget.out, if_pos hs3])
   have Hfin := box (put_msg (w := w4) (b := w.heap.size) (Z4.out) rfl (.int .i64 0) (.int .i64 0) (.int .i64 0) (.int .i64 0) (.int .i64 0) (.int .i64 0) (.string ⟨#[]⟩) (.string ⟨#[]⟩) (.string ⟨#[]⟩) (.slice none 0 0))
   have Cfin := box (calm_put_msg (a := w) (w := w4) (W4.out) (b := w.heap.size) (Nat.le_refl _) (.int .i64 0) (.int .i64 0) (.int .i64 0) (.int .i64 0) (.int .i64 0) (.int .i64 0) (.string ⟨#[]⟩) (.string ⟨#[]⟩) (.string ⟨#[]⟩) (.slice none 0 0))
   go_wp2_with fail
   (try simp only [Exit.inBlock, Exit.then])
   refine bodyPost_ret (ret_msg3 rfl _ _ w.heap.size _ rfl Hfin.out rfl) rfl ?_
   unfold GetIs2
   rw [Hg.out]
   exact ⟨.slice none 0 0, rfl, .inl ⟨rfl, none, 0, rfl⟩, Cfin.out, fun _ _ _ h => by cases h⟩
  have hget := box (hget.out.trans (if_neg hs3))
  by_cases hn3 : (k : Int) < 3 ∨ 1024 < (k : Int)
  ·have Hg := box (show getS RightP s = (zeroM, 0, 4) by rw [hget.out, if_pos (hn3.imp id fun h => ⟨Hea.out, h⟩)])
   have hn3' : (k : Int) < 3 ∨ (3 ≤ (k : Int) ∧ 1024 < (k : Int)) := by omega
   clear hn3
   rcases hn3' with hn3 | ⟨hn3, hn4⟩
   all_goals
    have Hfin := box (put_msg (w := w4) (b := w.heap.size) (Z4.out) rfl (.int .i64 0) (.int .i64 0) (.int .i64 0) (.int .i64 0) (.int .i64 0) (.int .i64 0) (.string ⟨#[]⟩) (.string ⟨#[]⟩) (.string ⟨#[]⟩) (.slice none 0 0))
    have Cfin := box (calm_put_msg (a := w) (w := w4) (W4.out) (b := w.heap.size) (Nat.le_refl _) (.int .i64 0) (.int .i64 0) (.int .i64 0) (.int .i64 0) (.int .i64 0) (.int .i64 0) (.string ⟨#[]⟩) (.string ⟨#[]⟩) (.string ⟨#[]⟩) (.slice none 0 0))
    go_wp2_with fail
    (try simp only [Exit.inBlock, Exit.then])
    refine bodyPost_ret (ret_msg3 rfl _ _ w.heap.size _ rfl Hfin.out rfl) rfl ?_
    unfold GetIs2
    rw [Hg.out]
    exact ⟨.slice none 0 0, rfl, .inl ⟨rfl, none, 0, rfl⟩, Cfin.out, fun _ _ _ h => by cases h⟩
  have hget := box (hget.out.trans (if_neg (fun h => hn3 (h.imp id fun h => h.2))))
  have hn3a : 3 ≤ (k : Int) := by omega
  have hn3b : (k : Int) ≤ 1024 := by omega
  clear hn3
  by_cases he : R3.e = 0
  ·have hget := box (hget.out.trans (if_neg (fun h => h he)))
   have HE := box (fun (W : World) (h : RdrAt W rb R3) => (show Calls Tryz.prog 134 #[.pointer (some ⟨rb, 0, none⟩)] W fun e w' => e = .returned (.int .i64 0) ∧ W = w' from by
    have := cE.out rb W h
    rwa [he] at this))
   clear he
   by_cases hz : t = zerosB t.size
   ·have Hg := box (hget.out.trans ((if_neg (fun h => h.2 hz)).trans (if_pos Hea.out)))
    rw [Int.toNat_natCast] at Hg
    have hzt : (t.toList == (zerosB t.size).toList) = true := by rw [← hz]; exact beq_self_eq_true _
    clear hz
    go_wp2_with fail
    refine (HE.out _ X3.out).mono ?_
    rintro e w' ⟨rfl, rfl⟩
    go_wp2_with fail
    refine (cZ.out t.size _ lt).mono ?_
    rintro e w5 ⟨rfl, hc5⟩
    have Z5 := box (heap_calm hc5 Z4.out)
    have W5 := box (Calm.trans W4.out hc5)
    clear hc5
    clear z0 z1 z2 z3 z4 z5 z6 z7 z8 z9 f0 f1 f2 f3 f4 f5 f6 f7 f8 f9 hlz
    go_wp2_with fail
    refine (cZ.out k _ (by omega)).mono ?_
    rintro e w6 ⟨rfl, hc6⟩
    have Z6 := box (heap_calm hc6 Z5.out)
    have W6 := box (Calm.trans W5.out hc6)
    clear hc6
    have z0 := cell_of Z6.out 0
    have z1 := cell_of Z6.out 1
    have z2 := cell_of Z6.out 2
    have z3 := cell_of Z6.out 3
    have z4 := cell_of Z6.out 4
    have z5 := cell_of Z6.out 5
    have z6 := cell_of Z6.out 6
    have z7 := cell_of Z6.out 7
    have z8 := cell_of Z6.out 8
    have z9 := cell_of Z6.out 9
    have f0 := free_of Z6.out 0
    have f1 := free_of Z6.out 1
    have f2 := free_of Z6.out 2
    have f3 := free_of Z6.out 3
    have f4 := free_of Z6.out 4
    have f5 := free_of Z6.out 5
    have f6 := free_of Z6.out 6
    have f7 := free_of Z6.out 7
    have f8 := free_of Z6.out 8
    have f9 := free_of Z6.out 9
    have hlz := heap_lt Z6.out
    have Hfin := box (put_msg (w := w6) (b := w.heap.size) (Z6.out) rfl (.int .i64 0) (.int .i64 0) (.int .i64 0) (.int .i64 0) (.int .i64 0) (.int .i64 0) (.string ⟨#[]⟩) (.string ⟨#[]⟩) (.string (zerosB k)) (.slice none 0 0))
    have Cfin := box (calm_put_msg (a := w) (w := w6) (W6.out) (b := w.heap.size) (Nat.le_refl _) (.int .i64 0) (.int .i64 0) (.int .i64 0) (.int .i64 0) (.int .i64 0) (.int .i64 0) (.string ⟨#[]⟩) (.string ⟨#[]⟩) (.string (zerosB k)) (.slice none 0 0))
    go_wp2_with fail
    (try simp only [Exit.inBlock, Exit.then])
    refine bodyPost_ret (ret_msg3 rfl _ _ w.heap.size _ rfl Hfin.out rfl) rfl ?_
    unfold GetIs2
    rw [Hg.out]
    exact ⟨.slice none 0 0, rfl, .inl ⟨rfl, none, 0, rfl⟩, Cfin.out, fun _ _ _ h => by cases h⟩
   ·have Hg := box (hget.out.trans (if_pos ⟨Hea.out, hz⟩))
    have hzt : (t.toList == (zerosB t.size).toList) = false := toList_ne hz
    clear hz
    go_wp2_with fail
    refine (HE.out _ X3.out).mono ?_
    rintro e w' ⟨rfl, rfl⟩
    go_wp2_with fail
    refine (cZ.out t.size _ lt).mono ?_
    rintro e w5 ⟨rfl, hc5⟩
    have Z5 := box (heap_calm hc5 Z4.out)
    have W5 := box (Calm.trans W4.out hc5)
    clear hc5
    clear z0 z1 z2 z3 z4 z5 z6 z7 z8 z9 f0 f1 f2 f3 f4 f5 f6 f7 f8 f9 hlz
    have z0 := cell_of Z5.out 0
    have z1 := cell_of Z5.out 1
    have z2 := cell_of Z5.out 2
    have z3 := cell_of Z5.out 3
    have z4 := cell_of Z5.out 4
    have z5 := cell_of Z5.out 5
    have z6 := cell_of Z5.out 6
    have z7 := cell_of Z5.out 7
    have z8 := cell_of Z5.out 8
    have z9 := cell_of Z5.out 9
    have f0 := free_of Z5.out 0
    have f1 := free_of Z5.out 1
    have f2 := free_of Z5.out 2
    have f3 := free_of Z5.out 3
    have f4 := free_of Z5.out 4
    have f5 := free_of Z5.out 5
    have f6 := free_of Z5.out 6
    have f7 := free_of Z5.out 7
    have f8 := free_of Z5.out 8
    have f9 := free_of Z5.out 9
    have hlz := heap_lt Z5.out
    have Hfin := box (put_msg (w := w5) (b := w.heap.size) (Z5.out) rfl (.int .i64 0) (.int .i64 0) (.int .i64 0) (.int .i64 0) (.int .i64 0) (.int .i64 0) (.string ⟨#[]⟩) (.string ⟨#[]⟩) (.string ⟨#[]⟩) (.slice none 0 0))
    have Cfin := box (calm_put_msg (a := w) (w := w5) (W5.out) (b := w.heap.size) (Nat.le_refl _) (.int .i64 0) (.int .i64 0) (.int .i64 0) (.int .i64 0) (.int .i64 0) (.int .i64 0) (.string ⟨#[]⟩) (.string ⟨#[]⟩) (.string ⟨#[]⟩) (.slice none 0 0))
    go_wp2_with fail
    (try simp only [Exit.inBlock, Exit.then])
    refine bodyPost_ret (ret_msg3 rfl _ _ w.heap.size _ rfl Hfin.out rfl) rfl ?_
    unfold GetIs2
    rw [Hg.out]
    exact ⟨.slice none 0 0, rfl, .inl ⟨rfl, none, 0, rfl⟩, Cfin.out, fun _ _ _ h => by cases h⟩
  ·have Hg := box (show getS RightP s = (zeroM, 0, 3) by rw [hget.out, if_pos he])
   have e1 : (R3.e == 0) = false := beq_eq_false_iff_ne.2 he
   have e2 : (R3.e != 0) = true := by rw [bne, e1]; rfl
   have HE := box (fun (W : World) (h : RdrAt W rb R3) => cE.out rb W h)
   clear he
   go_wp2_with fail
   refine (HE.out _ X3.out).mono ?_
   rintro e w' ⟨rfl, rfl⟩
   have Hfin := box (put_msg (w := w4) (b := w.heap.size) (Z4.out) rfl (.int .i64 0) (.int .i64 0) (.int .i64 0) (.int .i64 0) (.int .i64 0) (.int .i64 0) (.string ⟨#[]⟩) (.string ⟨#[]⟩) (.string ⟨#[]⟩) (.slice none 0 0))
   have Cfin := box (calm_put_msg (a := w) (w := w4) (W4.out) (b := w.heap.size) (Nat.le_refl _) (.int .i64 0) (.int .i64 0) (.int .i64 0) (.int .i64 0) (.int .i64 0) (.int .i64 0) (.string ⟨#[]⟩) (.string ⟨#[]⟩) (.string ⟨#[]⟩) (.slice none 0 0))
   go_wp2_with fail
   (try simp only [Exit.inBlock, Exit.then])
   refine bodyPost_ret (ret_msg3 rfl _ _ w.heap.size _ rfl Hfin.out rfl) rfl ?_
   unfold GetIs2
   rw [Hg.out]
   exact ⟨.slice none 0 0, rfl, .inl ⟨rfl, none, 0, rfl⟩, Cfin.out, fun _ _ _ h => by cases h⟩
 ·have Hg := box (show getS RightP s = (zeroM, 0, 4) by rw [Hget.out, if_pos ⟨fun e => (by rw [e, Lib.toList_data] at h0; revert h0; decide), fun e => (by rw [e, Lib.toList_data] at h1; revert h1; decide), fun e => (by rw [e, Lib.toList_data] at h2; revert h2; decide)⟩])
  have Hfin := box (put_msg (w := w4) (b := w.heap.size) (Z4.out) rfl (.int .i64 0) (.int .i64 0) (.int .i64 0) (.int .i64 0) (.int .i64 0) (.int .i64 0) (.string ⟨#[]⟩) (.string ⟨#[]⟩) (.string ⟨#[]⟩) (.slice none 0 0))
  have Cfin := box (calm_put_msg (a := w) (w := w4) (W4.out) (b := w.heap.size) (Nat.le_refl _) (.int .i64 0) (.int .i64 0) (.int .i64 0) (.int .i64 0) (.int .i64 0) (.int .i64 0) (.string ⟨#[]⟩) (.string ⟨#[]⟩) (.string ⟨#[]⟩) (.slice none 0 0))
  go_wp2_with fail
  (try simp only [Exit.inBlock, Exit.then])
  refine bodyPost_ret (ret_msg3 rfl _ _ w.heap.size _ rfl Hfin.out rfl) rfl ?_
  unfold GetIs2
  rw [Hg.out]
  exact ⟨.slice none 0 0, rfl, .inl ⟨rfl, none, 0, rfl⟩, Cfin.out, fun _ _ _ h => by cases h⟩
theorem Get_any (b : Nat) (s : ByteArray) (w : World) (ht : TabAt w b 1024) (hs : s.size ≤ 1000000) :
  Calls Tryz.prog 85 #[.pointer (some ⟨b, 0, none⟩), .string s] w (GetIs (getS RightP s).1 (getS RightP s).2.1 (getS RightP s).2.2 w) :=
 (Get_fresh b s w ht hs).mono fun _ _ ⟨kv, h1, h2, h3, _⟩ => ⟨kv, h1, h2, h3⟩
end Go.Proofs.YtjpokaifbnkmhaaGreatDoor.rc

namespace Go.Proofs.YtjpokaifbnkmhaaGreatDoor.tp
open Go.ChangeShapes Go.WideShapes Go.ChangeAt Go.RowKit Go.ChangeMaps
open rc oc cr dk sg
def BornIs (L : List (Nat × MsgS)) (last : Int) : Prop := ∀ x, L.getLast? = some x → last = x.2.born
theorem BornIs.nil (k : Int) : BornIs [] k := fun x h => by cases h
theorem BornIs.snoc (L : List (Nat × MsgS)) (x : Nat × MsgS) : BornIs (L ++ [x]) x.2.born := fun y h => by
 rw [List.getLast?_concat] at h
 rw [← Option.some.inj h]
section
variable {W w w' : World} {t p n r sb mb : Nat} {D D' : DiskS} {R R' : RowS} {L : List (Nat × MsgS)} {last : Int} {F F' : Nat → Prop} {v v' iv : Value}
theorem flat_take (ps : List Pc) (tl : List UInt8) {k : Nat} (hk : k < ps.length) : ∃ rest, (flat ps ++ tl).drop (flat (ps.take k)).length = ps[k].list ++ rest ∧ (flat (ps.take (k + 1))).length = (flat (ps.take k)).length + ps[k].len ∧ (flat (ps.take k)).length + ps[k].len ≤ (flat ps).length := by
 have h1 : ps = ps.take k ++ ps[k] :: ps.drop (k + 1) := by rw [List.getElem_cons_drop, List.take_append_drop]
 have h2 : ps.take (k + 1) = ps.take k ++ [ps[k]] := by rw [List.take_succ_eq_append_getElem hk]
 have h3 : flat ps = flat (ps.take k) ++ (ps[k].list ++ flat (ps.drop (k + 1))) := by
  rw [← flat_cons, ← flat_append, ← h1]
 refine ⟨flat (ps.drop (k + 1)) ++ tl, ?_, ?_, ?_⟩
 ·rw [h3, List.append_assoc, List.drop_left, List.append_assoc]
 ·rw [h2, flat_snoc, List.length_append]; rfl
 ·rw [h3, List.length_append, List.length_append]
  show _ + ps[k].list.length ≤ _
  omega
theorem fit_take {ps : List Pc} {a : Nat} (h : FitL a ps) {k : Nat} (hk : k < ps.length) : FitL a (ps.take k) ∧ ps[k].Fit (a + (flat (ps.take k)).length) := by
 have h1 : ps = ps.take k ++ ps[k] :: ps.drop (k + 1) := by rw [List.getElem_cons_drop, List.take_append_drop]
 rw [h1, fitL_append] at h
 exact ⟨h.1, h.2.1⟩
theorem left_calm {f : FuncId} {args : Array Value} {w : World} {x : Value} (h : Calls Tryz.prog f args w fun e w' => e = .returned x ∧ ∃ n, w' = w.drewN n) : Calls Tryz.prog f args w fun e w' => e = .returned x ∧ Calm w w' :=
 h.mono fun _ _ ⟨he, n, hw⟩ => ⟨he, hw ▸ (Calm.refl w).drewN n⟩
def ScanAt (W : World) (t p n r sb mb : Nat) (D : DiskS) (R : RowS) (F : Nat → Prop) (v : Value) (ps : List Pc) (w0 : World) (wr : World) : Prop :=
 ∃ iv last, TpIn W wr t p n r sb mb D R (recs R.start ps) last F v iv ∧ Step (tfoot t r sb mb F v (.slice none 0 0)) w0 (tfoot t r sb mb F v iv) wr ∧ BornIs (recs R.start ps) last
theorem ScanAt.calm {ps : List Pc} {w0 : World} (h : ScanAt W t p n r sb mb D R F v ps w0 w) (hc : Calm w w') : ScanAt W t p n r sb mb D R F v ps w0 w' := by
 obtain ⟨iv, last, h1, h2, h3⟩ := h
 exact ⟨iv, last, h1.calm hc, h2.calm hc, h3⟩
theorem ScanAt.note {ps : List Pc} {w0 : World} (h : ScanAt W t p n r sb mb D R F v ps w0 w) {pc : Pc} (hf : FitL R.start ps) (hp : pc.Fit (R.start + (flat ps).length)) (hl : ps.length ≤ 1000000) (kv : Value) :
  Calls Tryz.prog 79 #[ptrTo t, .int .i64 ((R.start + (flat ps).length : Nat) : Int), .int .i64 (pc.len : Int), .agg (msgA pc.msg kv)] w fun e w' => e = .returned (.tuple #[]) ∧ ScanAt W t p n r sb mb D R F v (ps ++ [pc]) w0 w' := by
 obtain ⟨iv, last, h1, h2, h3⟩ := h
 cases pc with
 | fill k =>
  refine (note_fill (fillM k) kv _ _ w h1 rfl).mono ?_
  rintro e w' ⟨rfl, iv', h4, h5⟩
  exact ⟨rfl, iv', last, by rw [recs_fill]; exact h4, h2.trans h5, by rw [recs_fill]; exact h3⟩
 | one m =>
  have hlen : (recs R.start ps).length ≤ ps.length := by
   clear h1 h2 h3 hf hp
   generalize R.start = a
   induction ps generalizing a with
   | nil => exact Nat.le_refl _
   | cons q ps ih =>
    cases q with
    | fill k => exact Nat.le_trans (ih (by simp at hl; omega) _) (by simp)
    | one m => show (recs _ ps).length + 1 ≤ _; have := ih (by simp at hl; omega) (a + (Pc.one m).len); simp; omega
  rw [Pc.len_one]
  refine (note_any m kv _ w h1 hp.2.2.2 (fun x hx e => ?_) (by omega)).mono ?_
  ·have := recs_range ps _ hf x hx
   have := (recB_bounds this.2.2.1 this.2.2.2.1).1
   omega
  rintro e w' ⟨rfl, iv', h4, h5⟩
  exact ⟨rfl, iv', m.born, by rw [recs_one]; exact h4, h2.trans h5, by rw [recs_one]; exact BornIs.snoc _ _⟩
set_option maxHeartbeats 8000000 in
theorem scan_any (ps : List Pc) (tl : List UInt8) (w : World) (h : TpIn W w t p n r sb mb D R [] 0 F v (.slice none 0 0)) (hH : Holds D R (flat ps ++ tl)) (ha : Alive D) (hf : FitL R.start ps) (hz : R.size = 1024) (hno : NoPc (R.start + (flat ps).length) tl) (hpl : ps.length ≤ 1000000) :
  Calls Tryz.prog 73 #[ptrTo t] w fun e w' => e = .returned (.int .i64 ((R.start + (flat ps).length : Nat) : Int)) ∧ ScanAt W t p n r sb mb D R F v ps w w' := by
 have hsz := hH.size
 have hle := hH.ok.le
 rw [List.length_append] at hsz
 have Hsz := box hsz
 have hbeg := box (fun W' (hc : Calm w W') => Begin_any W' (h.seg.row.calm hc))
 obtain ⟨c0, c1, c2, c3, c4, clt⟩ := h.cells
 have H0 := box (show ScanAt W t p n r sb mb D R F v (ps.take 0) w w from ⟨_, 0, by rw [List.take_zero]; exact h, Step.refl _ _, by rw [List.take_zero]; exact BornIs.nil _⟩)
 have HH := box hH
 have HA := box ha
 have HF := box hf
 have HN := box hno
 clear h hH ha hf hno
 go_enter Tryz.func73, Tryz.ntmps73
 go_wp2_with fail
 refine (hbeg.out _ (Calm.refl _)).mono ?_
 rintro e w1 ⟨rfl, rfl⟩
 clear hbeg
 go_wp2_with fail
 go_loopw [3] (fun av wr => ∃ k : Nat, k ≤ ps.length ∧ av = .int .i64 ((R.start + (flat (ps.take k)).length : Nat) : Int) ∧ Box (ScanAt W t p n r sb mb D R F v (ps.take k) w wr)) (fun av _ => R.fin - (intOf av).toNat)
 case atStart => exact ⟨0, Nat.zero_le _, by simp [flat_nil], H0⟩
 case round =>
  clear c0 c1 c2 c3 c4 clt H0
  obtain ⟨k, hk, rfl, HS⟩ := hrel
  obtain ⟨iv, last, hT, hSt, hB⟩ := HS.out
  have HT := box hT
  obtain ⟨c0, c1, c2, c3, c4, clt⟩ := hT.cells
  have hend := box (fun W' (hc : Calm wr W') => End_any W' (HT.out.seg.row.calm hc))
  have hlf := box (fun W' (hc : Calm wr W') => left_calm (Left_any ((R.start + (flat (ps.take k)).length : Nat) : Int) W' (HT.out.seg.row.calm hc)))
  have hrd := box (fun W' (hc : Calm wr W') => Read_any ((R.start + (flat (ps.take k)).length : Nat) : Int) (R.left ((R.start + (flat (ps.take k)).length : Nat) : Int) : Int) W' (HT.out.seg.drew hc))
  have hget := box (fun (s : ByteArray) (hs : s.size ≤ 1000000) W' (hc : Calm wr W') => Get_any sb s W' (heap_calm hc HT.out.sums) hs)
  clear hT hSt hB
  by_cases hkl : k < ps.length
  ·obtain ⟨rest, e1, e2, e3⟩ := flat_take ps tl hkl
   obtain ⟨f1, f2⟩ := fit_take HF.out hkl
   have hrr := read_rest HH.out HA.out hz (a := R.start + (flat (ps.take k)).length) (by omega) (by have := f2.1; omega)
   rw [show R.start + (flat (ps.take k)).length - R.start = (flat (ps.take k)).length by omega, e1] at hrr
   have hgt := rest_get f2 rest
   have hs1 : (bA (restOf (R.start + (flat (ps.take k)).length) (ps[k].list ++ rest))).size ≤ 1000000 := by
    rw [bA_size]
    unfold restOf
    exact Nat.le_trans (List.length_take_le _ _) (by unfold roomAt; omega)
   have hget1 := box (hget.out _ hs1)
   rw [hgt] at hget1
   rw [hrr.1] at hrd
   have hnote := box (fun (kv : Value) W' (hc : Calm wr W') => (HS.out.calm hc).note f1 f2 (by rw [List.length_take]; omega) kv)
   rw [show ps.take k ++ [ps[k]] = ps.take (k + 1) by rw [List.take_succ_eq_append_getElem hkl]] at hnote
   have hf3 := f2.2.1
   have hf4 := f2.1
   have HFL := box (show R.start + (flat (ps.take (k + 1))).length = R.start + (flat (ps.take k)).length + ps[k].len by rw [e2]; omega)
   have hlo := box (fun W' => loose_any t (R.start + (flat (ps.take k)).length + ps[k].len) W' (by omega))
   have hl3 : decide (roomAt (R.start + (flat (ps.take k)).length + ps[k].len) < 3) = false := decide_eq_false (by unfold roomAt; omega)
   rw [hl3] at hlo
   have hfin : R.start + (flat (ps.take k)).length + ps[k].len ≤ R.fin := by omega
   obtain ⟨sx, hsx⟩ : ∃ sx, bA (restOf (R.start + (flat (ps.take k)).length) (ps[k].list ++ rest)) = sx := ⟨_, rfl⟩
   rw [hsx] at hrd hget1
   obtain ⟨lf, hlfE⟩ : ∃ lf, R.left ((R.start + (flat (ps.take k)).length : Nat) : Int) = lf := ⟨_, rfl⟩
   rw [hlfE] at hlf hrd
   obtain ⟨pm, hpm⟩ : ∃ pm, ps[k].msg = pm := ⟨_, rfl⟩
   rw [hpm] at hget1 hnote
   obtain ⟨pl, hpl2⟩ : ∃ pl, ps[k].len = pl := ⟨_, rfl⟩
   rw [hpl2] at hget1 hnote HFL hlo hfin hf4
   obtain ⟨a, hae⟩ : ∃ a, R.start + (flat (ps.take k)).length = a := ⟨_, rfl⟩
   rw [hae] at hrd hlf hnote hlo HFL hfin ⊢
   clear hsz hrr hgt hs1 hsx hlfE hpm hpl2 e1 e2 e3 f1 f2 hf3 hl3 hget hae
   have t1 : decide (a < R.fin) = true := decide_eq_true (by omega)
   have t1b : decide ((a : Int) < (R.fin : Int)) = true := decide_eq_true (by omega)
   go_wp2_with fail
   refine (hend.out _ (Calm.refl _)).mono ?_
   rintro e w2 ⟨rfl, rfl⟩
   have hS := box (fun W' (hc : Calm wr W') => (HT.out.calm hc).cells.1)
   go_upto_region 3 with fail
   go_region_held3 (fun w' => w'.cell? ⟨t, 0, none⟩ = some (ptrTo r)) (first | go_keep | exact hS.out _ (by (repeat' (first | (with_reducible exact Calm.refl _) | (with_reducible assumption) | (with_reducible refine Calm.drew ?_) | (with_reducible refine Calm.alloc ?_ _) | (with_reducible refine Calm.trans ?_ (by assumption)))))) (first
    | (go_at_call 120; refine (hlf.out _ (by (repeat' (first | (with_reducible exact Calm.refl _) | (with_reducible assumption) | (with_reducible refine Calm.drew ?_) | (with_reducible refine Calm.alloc ?_ _) | (with_reducible refine Calm.trans ?_ (by assumption)))))).mono ?_; rintro e w5 ⟨rfl, hc5⟩)
    | (go_at_call 84; refine (hrd.out _ (by (repeat' (first | (with_reducible exact Calm.refl _) | (with_reducible assumption) | (with_reducible refine Calm.drew ?_) | (with_reducible refine Calm.alloc ?_ _) | (with_reducible refine Calm.trans ?_ (by assumption)))))).mono ?_; rintro e w6 ⟨rfl, hc6⟩))
   have HC6 := box (show Calm wr w6 by (repeat' (first | (with_reducible exact Calm.refl _) | (with_reducible assumption) | (with_reducible refine Calm.drew ?_) | (with_reducible refine Calm.alloc ?_ _) | (with_reducible refine Calm.trans ?_ (by assumption)))))
   clear hS hrd hlf hc5 hc6 c0 c1 c2 c3 c4 clt hend
   obtain ⟨c0, c1, c2, c3, c4, clt⟩ := (HT.out.calm HC6.out).cells
   go_wp2_with fail
   refine (hget1.out _ HC6.out).mono ?_
   rintro e w7 ⟨kv, rfl, hk7, hc7⟩
   have HC7 := box (HC6.out.trans hc7)
   obtain ⟨ka, kcap, rfl, _⟩ := hk7.uni
   obtain ⟨kd, q, du, rt, rf, bn, tp, tg, bd, ks⟩ := pm
   have J8 := box (heap_new w7 (.cells (msgA ⟨kd, q, du, rt, rf, bn, tp, tg, bd, ks⟩ (.slice ka ks.length kcap)) 62))
   have HC8 := box (HC7.out.alloc (.cells (msgA ⟨kd, q, du, rt, rf, bn, tp, tg, bd, ks⟩ (.slice ka ks.length kcap)) 62))
   clear hk7 hc7 hget1 c0 c1 c2 c3 c4 clt
   have c0 := cell_of J8.out 0
   have c1 := cell_of J8.out 1
   have c2 := cell_of J8.out 2
   have c3 := cell_of J8.out 3
   have c4 := cell_of J8.out 4
   have c5 := cell_of J8.out 5
   have c6 := cell_of J8.out 6
   have c7 := cell_of J8.out 7
   have c8 := cell_of J8.out 8
   have c9 := cell_of J8.out 9
   have clt := heap_lt J8.out
   have k1 : IntKind.i64.wrap ((a : Int) + (pl : Int)) = (a : Int) + (pl : Int) := IntWalk.i64_in _ (by omega)
   have k2 : IntKind.i64.wrap ((a : Int) + (pl : Int) - (pl : Int)) = (a : Int) := by rw [IntWalk.i64_in _ (by omega)]; omega
   go_wp2_with fail
   refine (hlo.out _).mono ?_
   rintro e w9 ⟨rfl, rfl⟩
   go_wp2_with fail
   refine (hnote.out _ _ HC8.out).mono ?_
   rintro e w10 ⟨rfl, hS10⟩
   have HS10 := box hS10
   clear hS10 hnote c0 c1 c2 c3 c4 c5 c6 c7 c8 c9 clt
   go_wp2_with fail
   go_roundw
   case rel => exact ⟨k + 1, by omega, by rw [HFL.out]; go_num, HS10⟩
   case measure => simp [intOf]; omega
  ·obtain rfl : k = ps.length := by omega
   rw [List.take_length] at HS hlf hrd ⊢
   have HS2 := box (fun W' (hc : Calm wr W') => HS.out.calm hc)
   have hs0 : (flat ps ++ tl).drop (flat ps).length = tl := List.drop_left ..
   have hrr := fun h1 => read_rest HH.out HA.out hz (a := R.start + (flat ps).length) (by omega) h1
   rw [show R.start + (flat ps).length - R.start = (flat ps).length by omega, hs0] at hrr
   have hs1 : (bA (restOf (R.start + (flat ps).length) tl)).size ≤ 1000000 := by
    rw [bA_size]
    unfold restOf
    exact Nat.le_trans (List.length_take_le _ _) (by unfold roomAt; omega)
   have hget1 := box (hget.out _ hs1)
   obtain ⟨⟨gm, gn, gc⟩, hg⟩ : ∃ x, getS RightP (bA (restOf (R.start + (flat ps).length) tl)) = x := ⟨_, rfl⟩
   have hbad := HN.out
   unfold NoPc at hbad
   rw [hg] at hget1 hbad
   simp only at hbad
   have hlen : tl = [] ↔ R.fin = R.start + (flat ps).length := by
    rw [← List.length_eq_zero_iff]
    have := Hsz.out
    omega
   have hfle : R.start + (flat ps).length ≤ R.fin := by have := Hsz.out; omega
   obtain ⟨lf, hlfE⟩ : ∃ lf, R.left ((R.start + (flat ps).length : Nat) : Int) = lf := ⟨_, rfl⟩
   rw [hlfE] at hlf hrd hrr
   obtain ⟨sx, hsx⟩ : ∃ sx, bA (restOf (R.start + (flat ps).length) tl) = sx := ⟨_, rfl⟩
   rw [hsx] at hget1 hrr
   obtain ⟨a, hae⟩ : ∃ a, R.start + (flat ps).length = a := ⟨_, rfl⟩
   rw [hae] at hrd hlf hlen hfle hrr ⊢
   have Hrr := box hrr
   have Hae := box hae
   clear hsz hrr hs0 hs1 hg hget hlfE hsx hae
   by_cases hend2 : R.fin = a
   ·have t1 : decide (a < R.fin) = false := decide_eq_false (by omega)
    have t1b : decide ((a : Int) < (R.fin : Int)) = false := decide_eq_false (by omega)
    clear hbad hlen hget1
    go_wp2_with fail
    refine (hend.out _ (Calm.refl _)).mono ?_
    rintro e w2 ⟨rfl, rfl⟩
    go_wp2_with fail
    go_ret
    exact ⟨by rw [Hae.out]; rfl, HS2.out _ (Calm.refl _)⟩
   ·have hc0 : gc ≠ 0 := hbad.resolve_left (fun e => hend2 (hlen.1 e))
    have t1 : decide (a < R.fin) = true := decide_eq_true (by omega)
    have t1b : decide ((a : Int) < (R.fin : Int)) = true := decide_eq_true (by omega)
    have t2 : (gc != 0) = true := by simpa using hc0
    have hr2 := (Hrr.out (by omega)).1
    rw [hr2] at hrd
    clear hbad hlen hend2 hr2 hc0
    go_wp2_with fail
    refine (hend.out _ (Calm.refl _)).mono ?_
    rintro e w2 ⟨rfl, rfl⟩
    have hS := box (fun W' (hc : Calm wr W') => (HT.out.calm hc).cells.1)
    go_upto_region 3 with fail
    go_region_held3 (fun w' => w'.cell? ⟨t, 0, none⟩ = some (ptrTo r)) (first | go_keep | exact hS.out _ (by (repeat' (first | (with_reducible exact Calm.refl _) | (with_reducible assumption) | (with_reducible refine Calm.drew ?_) | (with_reducible refine Calm.alloc ?_ _) | (with_reducible refine Calm.trans ?_ (by assumption)))))) (first
     | (go_at_call 120; refine (hlf.out _ (by (repeat' (first | (with_reducible exact Calm.refl _) | (with_reducible assumption) | (with_reducible refine Calm.drew ?_) | (with_reducible refine Calm.alloc ?_ _) | (with_reducible refine Calm.trans ?_ (by assumption)))))).mono ?_; rintro e w5 ⟨rfl, hc5⟩)
     | (go_at_call 84; refine (hrd.out _ (by (repeat' (first | (with_reducible exact Calm.refl _) | (with_reducible assumption) | (with_reducible refine Calm.drew ?_) | (with_reducible refine Calm.alloc ?_ _) | (with_reducible refine Calm.trans ?_ (by assumption)))))).mono ?_; rintro e w6 ⟨rfl, hc6⟩))
    have HC6 := box (show Calm wr w6 by (repeat' (first | (with_reducible exact Calm.refl _) | (with_reducible assumption) | (with_reducible refine Calm.drew ?_) | (with_reducible refine Calm.alloc ?_ _) | (with_reducible refine Calm.trans ?_ (by assumption)))))
    clear hS hrd hlf hc5 hc6 c0 c1 c2 c3 c4 clt hend
    obtain ⟨c0, c1, c2, c3, c4, clt⟩ := (HT.out.calm HC6.out).cells
    go_wp2_with fail
    refine (hget1.out _ HC6.out).mono ?_
    rintro e w7 ⟨kv, rfl, hk7, hc7⟩
    have HC7 := box (HC6.out.trans hc7)
    obtain ⟨ka, kcap, rfl, _⟩ := hk7.uni
    have HC8 := box (HC7.out.alloc (.cells (msgA gm (.slice ka gm.keys.length kcap)) 62))
    obtain ⟨kd, q, du, rt, rf, bn, tp, tg, bd, ks⟩ := gm
    clear hk7 hc7 hget1 c0 c1 c2 c3 c4 clt
    go_wp2_with fail
    go_ret
    exact ⟨by rw [Hae.out]; rfl, HS2.out _ HC8.out⟩
end
end Go.Proofs.YtjpokaifbnkmhaaGreatDoor.tp

namespace Go.Proofs.YtjpokaifbnkmhaaGreatDoor.tp
open Go.RowKit
open dk sg
section
variable {D E : DiskS} {R R' : RowS} {b : List UInt8} {c m : Nat}
structure ButB (D E : DiskS) (n s : ByteArray) : Prop where
 this : E.bytes n = some s
 others : ∀ x, x ≠ n → E.bytes x = D.bytes x
theorem ButB.only {head : ByteArray} {k : Nat} (hk : k < 100000000) {s : ByteArray} (h : ButB D E (nameB head k) s) : Only D E head := fun n hn => h.others n (hn k hk)
theorem files_bytes (h : E.files = D.files) (n : ByteArray) : E.bytes n = D.bytes n := by unfold DiskS.bytes DiskS.find; rw [h]
theorem holds_eq (h : Holds D R b) (he : ∀ n, E.bytes n = D.bytes n) : Holds E R b :=
 ⟨h.ok, h.size, fun i hi => (he _).trans (h.segs i hi), fun k hk hh => h.only k hk (by rw [bytes_has] at hh ⊢; rwa [he] at hh)⟩
theorem holds_put (h : Holds D R b) (h0 : 0 < R.cnt) (s : ByteArray) (hs : R.fin + s.size ≤ R.stop) (h2 : ButB D E (nameB R.head R.lastp) (laid (bA (segL b R.size (R.cnt - 1))) (R.fin - R.lastp) s)) : Holds E (R.grow s.size) (b ++ s.data.toList) := by
 have hl := h.lastLen h0
 have hst := RowOk.stop (R := R) h0
 have hsz := h.size
 have hls := lastp_eq R
 have hbytes := h.segs (R.cnt - 1) (by omega)
 have hlp : R.lastp < 100000000 := by have := h.ok.least h0; omega
 have hlen : (segL b R.size (R.cnt - 1)).length = R.fin - R.lastp := by rw [seg_length]; omega
 rw [← hls] at hbytes
 refine ⟨h.ok.grow h0 hs, ?_, fun i hi => ?_, fun k hk hh => ?_⟩
 ·show R.fin + s.size = R.start + (b ++ s.data.toList).length
  rw [List.length_append, size_toList, hsz]; omega
 ·have hi : i < R.cnt := hi
  show E.bytes (nameB R.head (R.start + i * R.size)) = some (bA (segL (b ++ s.data.toList) R.size i))
  by_cases he : i = R.cnt - 1
  ·subst he
   rw [← hls, h2.this]
   congr 1
   refine ba_ext ?_
   have hz : (bA (segL b R.size (R.cnt - 1))).size = R.fin - R.lastp := by rw [bA_size, hlen]
   rw [← hz, bytes_end, bA_list, bA_list, seg_last _ _ _ _ hl.1 (by rw [size_toList]; omega)]
  ·have hlt := plc_lt (size := R.size) (show i < R.cnt - 1 by omega)
   have hz := h.ok.size
   have hpi := (h.ok.place hi).2
   rw [h2.others _ (fun e => by have := name_inj (by omega) (by omega) e; omega), h.segs i hi, seg_append _ _ _ _ (by omega)]
 ·have hh : E.has (nameB R.head k) = true := hh
  refine h.only k hk ?_
  rw [bytes_has] at hh ⊢
  by_cases he : k = R.lastp
  ·rw [he, hbytes]; rfl
  ·rwa [h2.others _ (fun e => he (name_inj hk hlp e))] at hh
theorem fresh_no (h : Holds D R b) (hf : R.isFresh = false) (hl : R.fin ≤ 99999999) : D.has (nameB R.head R.fin) = false := by
 obtain ⟨k1, k2⟩ := h.ok.fresh hf
 cases hx : D.has (nameB R.head R.fin)
 ·rfl
 ·have := h.only R.fin (by omega) hx
  obtain ⟨i, hi, e⟩ := mem_plc.1 this
  have h1 := plc_lt (size := R.size) hi
  have h2 : R.stop = R.start + R.cnt * R.size := rfl
  have := h.ok.size
  omega
theorem holds_fresh (h : Holds D R b) (hf : R.isFresh = false) (hl : R.fin ≤ 99999999) (h2 : ButB D E (nameB R.head R.fin) ⟨#[]⟩) : Holds E R.more b := by
 obtain ⟨k1, k2⟩ := h.ok.fresh hf
 obtain ⟨m1, m2⟩ := h.ok.more hf hl
 refine ⟨m1, h.size, fun i hi => ?_, fun k hk hh => ?_⟩
 ·show E.bytes (nameB R.head (R.start + i * R.size)) = some (bA (segL b R.size i))
  have hi : i < R.cnt + 1 := hi
  have hst : R.stop = R.start + R.cnt * R.size := rfl
  by_cases he : i = R.cnt
  ·subst he
   rw [← hst, ← k1, h2.this]
   congr 1
   refine ba_ext ?_
   rw [bA_list]
   symm
   have hs := h.size
   have : (segL b R.size R.cnt).length = 0 := by rw [seg_length]; omega
   exact List.eq_nil_of_length_eq_zero this
  ·have hpi := (h.ok.place (k := i) (by omega)).2
   have hlt := plc_lt (size := R.size) (show i < R.cnt by omega)
   have hz := h.ok.size
   rw [h2.others _ (fun e => by have := name_inj (by omega) (by omega) e; omega)]
   exact h.segs i (by omega)
 ·have hh' : E.has (nameB R.head k) = true := hh
  show k ∈ plc R.start R.size (R.cnt + 1)
  rw [plc_snoc]
  by_cases he : k = R.fin
  ·refine List.mem_append_right _ ?_
   rw [List.mem_singleton, he, k1]; rfl
  ·refine List.mem_append_left _ (h.only k hk ?_)
   rw [bytes_has] at hh' ⊢
   rwa [h2.others _ (fun e => he (name_inj hk (by omega) e))] at hh'
theorem burn_cases (D : DiskS) : (D.burns = true ∧ D.burn.files = D.files ∧ D.burn.waits = D.waits ∧ D.burn.cap = D.cap ∧ D.burn.down = true) ∨ (D.burns = false ∧ D.burn.files = D.files ∧ D.burn.waits = D.waits ∧ D.burn.cap = D.cap ∧ D.burn.down = D.down) := by
 unfold DiskS.burns DiskS.burn
 by_cases h0 : D.left = 0
 ·left; rw [if_pos h0]; exact ⟨by simp [h0], rfl, rfl, rfl, rfl⟩
 ·right
  rw [if_neg h0]
  split <;> exact ⟨by simp [h0], rfl, rfl, rfl, rfl⟩
structure Made (D E : DiskS) (n : ByteArray) (blk : Nat) : Prop where
 files : E.files = D.files ++ [⟨n, blk, ⟨#[]⟩, ⟨#[]⟩⟩]
 waits : E.waits = D.waits
 cap : E.cap = D.cap
 down : E.down = false
structure Grew (D E : DiskS) (n : ByteArray) (f : FileS) (t : ByteArray) : Prop where
 find : D.find n = some f
 files : E.files = D.files.map fun x => if x.name = n then { x with now := laid x.now f.now.size t } else x
 waits : E.waits = D.waits ++ [⟨f.blk, f.now.size, t⟩]
 cap : E.cap = D.cap
 down : E.down = false
structure Fell (D E : DiskS) : Prop where
 files : E.files = D.files
 waits : E.waits = D.waits
 cap : E.cap = D.cap
 down : E.down = true
theorem create_gen {n : ByteArray} (hno : D.has n = false) (blk : Nat) : (∃ E, D.create n blk = (8, E) ∧ Fell D E ∧ ¬ Alive D) ∨ (∃ E, D.create n blk = (0, E) ∧ Made D E n blk ∧ (Alive D → Alive E)) := by
 unfold DiskS.create
 by_cases hd : D.down = true
 ·rw [if_pos hd]
  exact .inl ⟨D, rfl, ⟨rfl, rfl, rfl, hd⟩, fun h => by rw [h.down] at hd; cases hd⟩
 ·rw [if_neg hd, if_neg (by rw [hno]; decide)]
  unfold DiskS.doing
  rcases burn_cases D with ⟨h1, h2, h3, h4, h5⟩ | ⟨h1, h2, h3, h4, h5⟩
  ·rw [if_pos h1]
   exact .inl ⟨_, rfl, ⟨h2, h3, h4, h5⟩, fun h => by rw [h.burns] at h1; cases h1⟩
  ·rw [if_neg (by rw [h1]; decide)]
   refine .inr ⟨_, rfl, ⟨by show D.burn.files ++ _ = _; rw [h2], h3, h4, by rw [← h5] at hd; simpa using hd⟩, fun h => ?_⟩
   rw [h.burn]
   exact ⟨h.left, h.down⟩
theorem write_gen {n : ByteArray} {f : FileS} (hf : D.find n = some f) (t : ByteArray) (ht : t.size ≠ 0) (hroom : D.down = false → (t.size : Int) ≤ D.cap - D.size) : (∃ E, D.write n (f.now.size : Int) t = (8, E) ∧ Fell D E ∧ ¬ Alive D) ∨ (∃ E, D.write n (f.now.size : Int) t = (0, E) ∧ Grew D E n f t ∧ (Alive D → Alive E)) := by
 unfold DiskS.write
 by_cases hd : D.down = true
 ·rw [if_pos hd]
  exact .inl ⟨D, rfl, ⟨rfl, rfl, rfl, hd⟩, fun h => by rw [h.down] at hd; cases hd⟩
 ·have hr := hroom (by simpa using hd)
  rw [if_neg hd, hf]
  simp only
  rw [if_neg (by omega), if_neg (by omega)]
  unfold DiskS.doing
  rcases burn_cases D with ⟨h1, h2, h3, h4, h5⟩ | ⟨h1, h2, h3, h4, h5⟩
  ·rw [if_pos h1]
   exact .inl ⟨_, rfl, ⟨h2, h3, h4, h5⟩, fun h => by rw [h.burns] at h1; cases h1⟩
  ·rw [if_neg (by rw [h1]; decide)]
   dsimp only
   rw [if_neg ht]
   refine .inr ⟨_, rfl, ⟨hf, ?_, ?_, h4, show D.burn.down = false by rw [h5]; simpa using hd⟩, fun h => ?_⟩
   ·show D.burn.files.map _ = _
    rw [h2]; rfl
   ·show D.burn.waits ++ _ = _
    rw [h3]; rfl
   ·rw [h.burn]
    exact ⟨h.left, h.down⟩
theorem Fell.bytes (h : Fell D E) (n : ByteArray) : E.bytes n = D.bytes n := files_bytes h.files n
theorem Fell.form (h : Fell D E) (hF : dk.Form D) : dk.Form E := ⟨by rw [h.files]; exact hF.names, by rw [h.files]; exact hF.blks, by rw [h.files, h.waits]; exact hF.live⟩
theorem Made.but {n : ByteArray} {blk : Nat} (h : Made D E n blk) (hno : D.has n = false) : ButB D E n ⟨#[]⟩ := by
 have hf : D.find n = none := by unfold DiskS.has at hno; cases hx : D.find n; rfl; rw [hx] at hno; cases hno
 refine ⟨?_, fun x hx => ?_⟩
 ·unfold DiskS.bytes DiskS.find at *
  rw [h.files, List.find?_append, hf]; simp
 ·unfold DiskS.bytes DiskS.find
  rw [h.files, List.find?_append]
  cases hg : D.files.find? (fun f : FileS => decide (f.name = x)) with
  | some g => rfl
  | none => simp [Ne.symm hx]
theorem Made.form {n : ByteArray} {blk : Nat} (h : Made D E n blk) (hF : dk.Form D) (hno : D.has n = false) (hb : ∀ f ∈ D.files, f.blk ≠ blk) : dk.Form E := form_create hF hno hb h.files h.waits
theorem Made.size {n : ByteArray} {blk : Nat} (h : Made D E n blk) : E.size = D.size := by
 unfold DiskS.size total
 rw [h.files, List.map_append, List.foldr_append]; rfl
theorem Grew.turn {n t : ByteArray} {f : FileS} (h : Grew D E n f t) : E.files = (D.turn n fun x => { x with now := laid x.now f.now.size t }).files := h.files
theorem Grew.but {n t : ByteArray} {f : FileS} (h : Grew D E n f t) (hF : dk.Form D) : ButB D E n (laid f.now f.now.size t) := by
 refine ⟨?_, fun x hx => ?_⟩
 ·rw [files_bytes h.turn]
  show ((D.turn n _).find n).map _ = _
  rw [find_turn_same hF h.find (fun x => { x with now := laid x.now f.now.size t }) (fun _ => rfl)]; rfl
 ·rw [files_bytes h.turn]
  show ((D.turn n _).find x).map _ = _
  rw [find_turn_other (Ne.symm hx) (fun x => { x with now := laid x.now f.now.size t }) (fun _ => rfl)]; rfl
theorem Grew.form {n t : ByteArray} {f : FileS} (h : Grew D E n f t) (hF : dk.Form D) : dk.Form E := by
 have e1 : E.files.map (·.name) = D.files.map (·.name) := by
  rw [h.files, List.map_map]
  exact List.map_congr_left (fun x _ => by simp only [Function.comp]; split <;> rfl)
 have e2 : E.files.map (·.blk) = D.files.map (·.blk) := by
  rw [h.files, List.map_map]
  exact List.map_congr_left (fun x _ => by simp only [Function.comp]; split <;> rfl)
 refine ⟨by rw [e1]; exact hF.names, by rw [e2]; exact hF.blks, fun x hx => ?_⟩
 have hmem : x.blk ∈ D.files.map (·.blk) := by
  rw [h.waits] at hx
  rcases List.mem_append.1 hx with hx | hx
  ·obtain ⟨g, hg, e⟩ := hF.live x hx
   exact List.mem_map.2 ⟨g, hg, e⟩
  ·rw [List.mem_singleton] at hx
   subst hx
   exact List.mem_map.2 ⟨f, (find_some h.find).1, rfl⟩
 rw [← e2] at hmem
 obtain ⟨g, hg, e⟩ := List.mem_map.1 hmem
 exact ⟨g, hg, e⟩
theorem Grew.size {n t : ByteArray} {f : FileS} (h : Grew D E n f t) (hF : dk.Form D) : E.size = D.size + t.size := by
 obtain ⟨A, a1, a2, a3, a4, a5⟩ : ∃ A : DiskS, A.files = D.files ∧ A.waits = D.waits ∧ A.left = -1 ∧ A.down = false ∧ A.cap = ((D.size + t.size : Nat) : Int) := ⟨⟨-1, false, ((D.size + t.size : Nat) : Int), D.files, D.waits⟩, rfl, rfl, rfl, rfl, rfl⟩
 have hA : Alive A := ⟨a3, a4⟩
 have hFA : dk.Form A := ⟨by rw [a1]; exact hF.names, by rw [a1]; exact hF.blks, by rw [a1, a2]; exact hF.live⟩
 have hfA : A.find n = some f := by unfold DiskS.find; rw [a1]; exact h.find
 have hsA : A.size = D.size := by unfold DiskS.size; rw [a1]
 obtain ⟨G, g1, g2, g3⟩ := write_but hA hFA (n := n) (s := f.now) (by unfold DiskS.bytes; rw [hfA]; rfl) f.now.size t (Nat.le_refl _) (by rw [a5, hsA]; omega)
 by_cases ht : t.size = 0
 ·have : E.size = D.size + 0 := by
   have hx : ∀ x : ByteArray, laid x f.now.size t = x := fun x => by
    unfold laid laidL
    have : t.data.toList = [] := List.eq_nil_of_length_eq_zero (by rw [size_toList]; exact ht)
    rw [this, if_pos rfl]
   have e3 : E.files.map (fun f => f.now.size) = D.files.map (fun f => f.now.size) := by
    rw [h.files, List.map_map]
    refine List.map_congr_left (fun x _ => ?_)
    simp only [Function.comp]
    split
    ·rw [hx]
    ·rfl
   unfold DiskS.size total
   rw [e3]; rfl
  rw [this, ht]
 ·have e : E.files = G.files := by
   unfold DiskS.write at g1
   rw [hA.down, hfA] at g1
   simp only [Int.toNat_natCast] at g1
   rw [if_neg (by decide), if_neg (by omega), if_neg (by rw [a5, hsA]; omega), hA.doing, if_neg ht] at g1
   cases g1
   rw [h.files]
   show _ = A.files.map _
   rw [a1]
  have : E.size = G.size := by unfold DiskS.size; rw [e]
  rw [this, g3, hsA]; omega
structure Kin (R R' : RowS) : Prop where
 head : R'.head = R.head
 size : R'.size = R.size
 start : R'.start = R.start
 synced : R'.synced = R.synced
structure AppOk (D : DiskS) (R : RowS) (b : List UInt8) (s : ByteArray) (E : DiskS) (R' : RowS) : Prop where
 holds : Holds E R' (b ++ s.data.toList)
 kin : Kin R R'
 fin : R'.fin = R.fin + s.size
 tight : Tight R'
 cnt : 0 < R'.cnt
 form : dk.Form E
 cap : E.cap = D.cap
 only : Only D E R.head
 down : D.down = false ∧ E.down = false
 few : E.files.length ≤ D.files.length + 1
 names : (∀ f ∈ D.files, f.name.size ≤ 1000) → ∀ f ∈ E.files, f.name.size ≤ 1000
 size : E.size = D.size + s.size
 alive : Alive D → Alive E
structure AppNo (D : DiskS) (R : RowS) (b : List UInt8) (E : DiskS) (R' : RowS) : Prop where
 holds : Holds E R' b
 kin : Kin R R'
 fin : R'.fin = R.fin
 form : dk.Form E
 cap : E.cap = D.cap
 only : Only D E R.head
 down : E.down = true
 few : E.files.length ≤ D.files.length + 1
 names : (∀ f ∈ D.files, f.name.size ≤ 1000) → ∀ f ∈ E.files, f.name.size ≤ 1000
 dead : ¬ Alive D
theorem Made.few {n : ByteArray} {blk : Nat} (h : Made D E n blk) (hn : n.size ≤ 1000) : E.files.length ≤ D.files.length + 1 ∧ ((∀ f ∈ D.files, f.name.size ≤ 1000) → ∀ f ∈ E.files, f.name.size ≤ 1000) := by
 rw [h.files]
 refine ⟨by simp, fun hx f hf => ?_⟩
 rcases List.mem_append.1 hf with hf | hf
 ·exact hx f hf
 ·rw [List.mem_singleton] at hf; subst hf; exact hn
theorem Grew.few {n t : ByteArray} {f : FileS} (h : Grew D E n f t) : E.files.length = D.files.length ∧ ((∀ f ∈ D.files, f.name.size ≤ 1000) → ∀ f ∈ E.files, f.name.size ≤ 1000) := by
 rw [h.files]
 refine ⟨by simp, fun hx g hg => ?_⟩
 obtain ⟨y, hy, rfl⟩ := List.mem_map.1 hg
 split
 ·exact hx y hy
 ·exact hx y hy
theorem put_gen (h : Holds D R b) (hF : dk.Form D) (h0 : 0 < R.cnt) (s : ByteArray) (hs0 : s.size ≠ 0) (hs : R.fin + s.size ≤ R.stop) (hroom : D.down = false → (s.size : Int) ≤ D.cap - D.size) :
  (∃ E, putD D R s = ((0, 8), E, R) ∧ Fell D E ∧ ¬ Alive D) ∨ (∃ E f, putD D R s = (((R.fin : Int), 0), E, R.grow s.size) ∧ Grew D E (nameB R.head R.lastp) f s ∧ (Alive D → Alive E) ∧ Holds E (R.grow s.size) (b ++ s.data.toList)) := by
 have hl := h.lastLen h0
 have hst := RowOk.stop (R := R) h0
 have hsz := h.size
 have hls := lastp_eq R
 have hbytes := h.segs (R.cnt - 1) (by omega)
 have hlen : (segL b R.size (R.cnt - 1)).length = R.fin - R.lastp := by rw [seg_length]; omega
 rw [← hls] at hbytes
 obtain ⟨f, hf, hfn⟩ := bytes_some hbytes
 have hfz : f.now.size = R.fin - R.lastp := by rw [hfn, bA_size, hlen]
 have hw := write_gen hf s hs0 hroom
 rw [hfz] at hw
 unfold putD
 rcases hw with ⟨E, h1, h2, h3⟩ | ⟨E, h1, h2, h3⟩
 ·rw [h1]
  exact .inl ⟨E, rfl, h2, h3⟩
 ·rw [h1]
  refine .inr ⟨E, f, rfl, h2, h3, holds_put h h0 s hs ?_⟩
  have := h2.but hF
  rw [hfn] at this
  rw [← hfn, hfz, hfn] at this
  exact this
theorem append_gen (h : Holds D R b) (hF : dk.Form D) (s : ByteArray) (hs : s.size ≠ 0) (hr : s.size ≤ R.room) (hroom : D.down = false → (s.size : Int) ≤ D.cap - D.size) (hl : R.fin ≤ 99999999) (hh : R.head.size ≤ 900) (blk : Nat) (hb : ∀ f ∈ D.files, f.blk ≠ blk) :
  (∃ E R', appendD D R s blk = ((0, 8), E, R') ∧ AppNo D R b E R') ∨ (∃ E R', appendD D R s blk = (((R.fin : Int), 0), E, R') ∧ AppOk D R b s E R') := by
 have hA : ∀ (x : Int × DiskS × RowS), freshD D R blk = x → appendD D R s blk = if x.1 ≠ 0 then ((0, x.1), x.2) else putD x.2.1 x.2.2 s := fun x hx => by
  unfold appendD
  rw [if_neg (by omega), if_neg (fun hc => by have := hroom hc.2; omega), hx]
 by_cases hf : R.isFresh = true
 ·have h0 := isFresh_cnt h.ok hf
  have hfr : freshD D R blk = (0, D, R) := by unfold freshD; rw [if_pos hf]
  have hsp : R.room ≤ R.stop - R.fin := by
   have := (fresh_ok h.ok D blk).2 (by rw [hfr])
   rw [hfr] at this
   exact this.2.2
  have hfin := h.ok.fin h0
  have hlp : R.lastp < 100000000 := by have := h.ok.least h0; omega
  rw [hA _ hfr]
  simp only
  rw [if_neg (by decide)]
  rcases put_gen h hF h0 s hs (by omega) hroom with ⟨E, e1, e2, e3⟩ | ⟨E, f, e1, e2, e3, e4⟩
  ·exact .inl ⟨E, R, e1, holds_eq h e2.bytes, ⟨rfl, rfl, rfl, rfl⟩, rfl, e2.form hF, e2.cap, fun n _ => e2.bytes n, e2.down, by rw [e2.files]; omega, fun hx f hf => hx f (by rwa [e2.files] at hf), e3⟩
  ·refine .inr ⟨E, _, e1, e4, ⟨rfl, rfl, rfl, rfl⟩, rfl, .inr ?_, h0, e2.form hF, e2.cap, (e2.but hF).only hlp, ⟨?_, e2.down⟩, by rw [e2.few.1]; omega, e2.few.2, e2.size hF, e3⟩
   ·show R.lastp < R.fin + s.size
    omega
   ·cases hd : D.down with
    | false => rfl
    | true =>
     exfalso
     unfold putD DiskS.write at e1
     rw [hd] at e1
     simp at e1
 ·have hf : R.isFresh = false := by simpa using hf
  have hno := fresh_no h hf hl
  obtain ⟨k1, k2⟩ := h.ok.fresh hf
  obtain ⟨m1, m2⟩ := h.ok.more hf hl
  have hst := RowOk.stop (R := R.more) (Nat.succ_pos _)
  have hroom2 := h.ok.room
  have x1 : R.more.size = R.size := rfl
  have x2 : R.more.fin = R.fin := rfl
  have hn1 : (nameB R.head R.fin).size ≤ 1000 := by rw [name_size]; omega
  rcases create_gen hno blk with ⟨E, c1, c2, c3⟩ | ⟨E, c1, c2, c3⟩
  ·have hfr : freshD D R blk = (8, E, R) := by unfold freshD; rw [if_neg (by rw [hf]; decide), if_neg (by omega), c1]; rfl
   rw [hA _ hfr]
   exact .inl ⟨E, R, rfl, holds_eq h c2.bytes, ⟨rfl, rfl, rfl, rfl⟩, rfl, c2.form hF, c2.cap, fun n _ => c2.bytes n, c2.down, by rw [c2.files]; omega, fun hx f hf => hx f (by rwa [c2.files] at hf), c3⟩
  ·have hfr : freshD D R blk = (0, E, R.more) := by unfold freshD; rw [if_neg (by rw [hf]; decide), if_neg (by omega), c1]; rfl
   have hE := holds_fresh h hf hl (c2.but hno)
   have hFE := c2.form hF hno hb
   have hdd : D.down = false := by
    cases hd : D.down with
    | false => rfl
    | true =>
     exfalso
     unfold DiskS.create at c1
     rw [hd] at c1
     simp at c1
   rw [hA _ hfr]
   simp only
   rw [if_neg (by decide)]
   rcases put_gen hE hFE (Nat.succ_pos _) s hs (by omega) (fun _ => by rw [c2.cap, c2.size]; exact hroom hdd) with ⟨G, e1, e2, e3⟩ | ⟨G, f, e1, e2, e3, e4⟩
   ·exact .inl ⟨G, R.more, e1, holds_eq hE e2.bytes, ⟨rfl, rfl, rfl, rfl⟩, rfl, e2.form hFE, e2.cap.trans c2.cap, fun n hn => (e2.bytes n).trans ((c2.but hno).only (by omega) n hn), e2.down, by rw [e2.files]; exact (c2.few hn1).1, fun hx f hf => (c2.few hn1).2 hx f (by rwa [e2.files] at hf), fun ha => e3 (c3 ha)⟩
   ·refine .inr ⟨G, _, e1, e4, ⟨rfl, rfl, rfl, rfl⟩, rfl, .inr ?_, Nat.succ_pos _, e2.form hFE, e2.cap.trans c2.cap, ((c2.but hno).only (by omega)).trans ((e2.but hFE).only (by have := m1.least (Nat.succ_pos _); omega)), ⟨hdd, e2.down⟩, by rw [e2.few.1]; exact (c2.few hn1).1, fun hx => e2.few.2 ((c2.few hn1).2 hx), by rw [e2.size hFE, c2.size], fun ha => e3 (c3 ha)⟩
    show R.more.lastp < R.fin + s.size
    omega
end
end Go.Proofs.YtjpokaifbnkmhaaGreatDoor.tp

namespace Go.Proofs.YtjpokaifbnkmhaaGreatDoor.tp
open Go.ChangeShapes Go.WideShapes Go.ChangeAt Go.RowKit Go.ChangeMaps
open rc oc cr dk sg
structure Tp (W : World) (t p n : Nat) (S : TS) (G : Nat → Prop) (w : World) : Prop where
 at_ : ∃ r sb mb F v iv, TpIn W w t p n r sb mb S.D S.R S.recs S.last F v iv ∧ ∀ b, G b ↔ tfoot t r sb mb F v iv b
 holds : Holds S.D S.R (flat S.ps)
 fit : FitL S.R.start S.ps
 size : S.R.size = 1024
 head : S.R.head = tapeN
 born : BornIs S.recs S.last
section
variable {W w w' : World} {t p n r sb mb : Nat} {D D' : DiskS} {R R' : RowS} {L : List (Nat × MsgS)} {last : Int} {F F' G G' : Nat → Prop} {v v' iv : Value} {S S' : TS} {b : List UInt8}
theorem Step.iff {F G F' G' : Nat → Prop} {w w' : World} (h : Step F w G w') (hF : ∀ b, F' b ↔ F b) (hG : ∀ b, G' b ↔ G b) : Step F' w G' w' :=
 ⟨h.keeps.mono (fun b _ hb => (hF b).2 hb), fun b hb => (h.foot b ((hG b).1 hb)).elim (fun x => .inl ((hF b).2 x)) .inr⟩
theorem Tp.calm (h : Tp W t p n S G w) (hc : Calm w w') : Tp W t p n S G w' := by
 obtain ⟨r, sb, mb, F, v, iv, h1, h2⟩ := h.at_
 exact ⟨⟨r, sb, mb, F, v, iv, h1.calm hc, h2⟩, h.holds, h.fit, h.size, h.head, h.born⟩
theorem Tp.lt (h : Tp W t p n S G w) : ∀ b, G b → b < w.heap.size := fun b hb => by
 obtain ⟨r, sb, mb, F, v, iv, h1, h2⟩ := h.at_
 exact h1.lt b ((h2 b).1 hb)
theorem Tp.from_ (h : Tp W t p n S G w) : ∀ b, G b → W.heap.size ≤ b := fun b hb => by
 obtain ⟨r, sb, mb, F, v, iv, h1, h2⟩ := h.at_
 exact h1.from_ b ((h2 b).1 hb)
theorem Tp.owns (h : Tp W t p n S G w) : Calm W w := by
 obtain ⟨r, sb, mb, F, v, iv, h1, h2⟩ := h.at_
 exact h1.seg.calm
theorem Tp.mono (h : Tp W t p n S G w) {m : Nat} (hm : n ≤ m) : Tp W t p m S G w := by
 obtain ⟨r, sb, mb, F, v, iv, h1, h2⟩ := h.at_
 exact ⟨⟨r, sb, mb, F, v, iv, ⟨h1.seg.mono hm, h1.obj, h1.sums, h1.ids, h1.sizes, h1.apart, h1.mF, h1.tW, h1.sW, h1.mW⟩, h2⟩, h.holds, h.fit, h.size, h.head, h.born⟩
theorem Tp.end_ok (h : Tp W t p n S G w) : S.R.fin % 1024 = 0 ∨ S.R.fin % 1024 + 3 ≤ 1024 := by
 have h1 := h.holds.ok.mod
 rw [h.size] at h1
 rw [h.holds.size]
 exact fit_end S.ps S.R.start h.fit (.inl h1)
theorem Tp.rises (h : Tp W t p n S G w) : Rises S.recs := recs_rise S.ps _ h.fit
theorem recs_length : ∀ (ps : List Pc) (a : Nat), (recs a ps).length ≤ ps.length
 | [], _ => Nat.le_refl _
 | .fill n :: ps, a => Nat.le_trans (recs_length ps _) (by simp)
 | .one m :: ps, a => by
  show (recs _ ps).length + 1 ≤ _
  have := recs_length ps (a + (Pc.one m).len)
  simp; omega
theorem flat_least : ∀ (ps : List Pc) (a : Nat), FitL a ps → 3 * ps.length ≤ (flat ps).length
 | [], _, _ => Nat.le_refl _
 | p :: ps, a, h => by
  have h1 := flat_least ps _ h.2
  have h2 := h.1.1
  rw [flat_len_cons, List.length_cons]
  omega
theorem Tp.few (h : Tp W t p n S G w) : S.ps.length ≤ S.R.fin ∧ S.recs.length ≤ S.R.fin := by
 have h1 := flat_least S.ps _ h.fit
 have h2 := recs_length S.ps S.R.start
 have h3 := h.holds.size
 refine ⟨by omega, ?_⟩
 show (recs S.R.start S.ps).length ≤ _
 omega
def RowApp (W : World) (t p n r sb mb : Nat) (D : DiskS) (R : RowS) (L : List (Nat × MsgS)) (last : Int) (F : Nat → Prop) (v iv : Value) (b : List UInt8) (s : ByteArray) (w : World) (e : Ending) (w' : World) : Prop :=
 ∃ E R' F' v', TpIn W w' t p (n + 1) r sb mb E R' L last F' v' iv ∧ Step (tfoot t r sb mb F v iv) w (tfoot t r sb mb F' v' iv) w' ∧
  ((e = .returned (.tuple #[.int .i64 0, .int .i64 8]) ∧ AppNo D R b E R') ∨ (e = .returned (.tuple #[.int .i64 (R.fin : Int), .int .i64 0]) ∧ AppOk D R b s E R'))
theorem row_append (h : TpIn W w t p n r sb mb D R L last F v iv) (hH : Holds D R b) (s : ByteArray) (hs : s.size ≠ 0) (hr : s.size ≤ R.room) (hroom : D.down = false → (s.size : Int) ≤ D.cap - D.size) (hl : R.fin ≤ 99999999) (hh : R.head = tapeN) (hn : n ≤ 999990) :
  Calls Tryz.prog 62 #[ptrTo r, .string s] w (RowApp W t p n r sb mb D R L last F v iv b s w) := by
 have h0 := hH.ok.room
 have h00 := hH.ok.size
 refine (Append_any s w h.seg hn (by omega)).mono ?_
 rintro e w' ⟨blk, F', v', hbk, rfl, hS, hT⟩
 have hb : ∀ f ∈ D.files, f.blk ≠ blk := fun f hf e => by
  have : F f.blk := by obtain ⟨mb, wv, h1, rfl⟩ := h.seg.disk.lies; exact .inr (.inr (.inr (List.mem_map.2 ⟨f, hf, rfl⟩)))
  have := h.seg.disk.foot_lt _ this
  omega
 rcases append_gen hH h.seg.disk.form s hs hr hroom hl (by rw [hh]; decide) blk hb with ⟨E, R', e1, e2⟩ | ⟨E, R', e1, e2⟩
 ·rw [e1] at hS ⊢
  exact ⟨E, R', F', v', h.step hS hT, h.foot_step hT, .inl ⟨rfl, e2⟩⟩
 ·rw [e1] at hS ⊢
  exact ⟨E, R', F', v', h.step hS hT, h.foot_step hT, .inr ⟨rfl, e2⟩⟩
structure TpDone (S : TS) (m : MsgS) (S' : TS) : Prop where
 ps : S'.ps = S.ps ++ laidP S.R.fin m
 last : S'.last = m.born
 kin : Kin S.R S'.R
 fin : S'.R.fin = S.R.fin + costP S.R.fin m
 tight : Tight S'.R
 cnt : 0 < S'.R.cnt
 cap : S'.D.cap = S.D.cap
 only : Only S.D S'.D tapeN
 down : S'.D.down = false
 few : S'.D.files.length ≤ S.D.files.length + 2
 names : (∀ f ∈ S.D.files, f.name.size ≤ 1000) → ∀ f ∈ S'.D.files, f.name.size ≤ 1000
 size : S'.D.size = S.D.size + costP S.R.fin m
 alive : Alive S.D → Alive S'.D
structure TpFell (S : TS) (m : MsgS) (S' : TS) : Prop where
 ps : S'.ps = S.ps ∨ (¬ goesIn S.R.fin (recB m).size ∧ S'.ps = S.ps ++ [.fill (roomAt S.R.fin)])
 last : S'.last = S.last
 kin : Kin S.R S'.R
 cap : S'.D.cap = S.D.cap
 only : Only S.D S'.D tapeN
 down : S'.D.down = true
 few : S'.D.files.length ≤ S.D.files.length + 2
 names : (∀ f ∈ S.D.files, f.name.size ≤ 1000) → ∀ f ∈ S'.D.files, f.name.size ≤ 1000
 dead : ¬ Alive S.D
def AppT (S : TS) (m : MsgS) (e : Ending) (S' : TS) : Prop :=
 (¬ okM m ∧ e = .returned (.tuple #[.int .i64 0, .int .i64 1]) ∧ S' = S) ∨
 (okM m ∧ S.D.down = true ∧ e = .returned (.tuple #[.int .i64 0, .int .i64 8]) ∧ S' = S) ∨
 (okM m ∧ S.D.down = false ∧ S.D.cap - S.D.size < (costP S.R.fin m : Int) ∧ e = .returned (.tuple #[.int .i64 0, .int .i64 7]) ∧ S' = S) ∨
 (okM m ∧ S.D.down = false ∧ (costP S.R.fin m : Int) ≤ S.D.cap - S.D.size ∧ e = .returned (.tuple #[.int .i64 0, .int .i64 8]) ∧ TpFell S m S') ∨
 (okM m ∧ S.D.down = false ∧ (costP S.R.fin m : Int) ≤ S.D.cap - S.D.size ∧ e = .returned (.tuple #[.int .i64 (idP S.R.fin m : Int), .int .i64 0]) ∧ TpDone S m S')
def AppDone (W : World) (t p n : Nat) (S : TS) (m : MsgS) (G : Nat → Prop) (w : World) (e : Ending) (w' : World) : Prop :=
 ∃ S' G', Tp W t p (n + 2) S' G' w' ∧ Step G w G' w' ∧ AppT S m e S'
theorem AppDone.same (h : Tp W t p n S G w) (hc : Calm w w') {m : MsgS} {e : Ending} (ha : AppT S m e S) : AppDone W t p n S m G w e w' :=
 ⟨S, G, (h.calm hc).mono (by omega), Step.of_calm hc, ha⟩
end
end Go.Proofs.YtjpokaifbnkmhaaGreatDoor.tp
