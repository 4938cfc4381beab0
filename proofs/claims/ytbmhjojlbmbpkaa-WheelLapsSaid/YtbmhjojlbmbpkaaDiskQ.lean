/- Layer 4: calls as data; Do. -/
import Derived.Test.YtbmhjojlbmbpkaaDiskP
import Derived.Test.YtbmhjojlbmbpkaaDiskK
import Derived.Test.YtbmhjojlbmbpkaaRead
namespace Go.Proofs.Ytbmhjojlbmbpkaa.dk
open Go.ChangeShapes Go.WideShapes Go.ChangeAt Go.RowKit

def opCells (o : OpS) (lv kv : Value) : List Value := [.int .i64 o.k, .int .i64 o.n, .string o.a, .string o.b, .string o.s, lv, kv, .int .i64 o.lack]
/-- What a call's data hang on. -/
structure OpIs (w : World) (lv kv : Value) (o : OpS) : Prop where
  l : RowsAt StrR 1 w lv o.l
  keep : RowsAt BoolR 1 w kv o.keep
  n : o.n ≤ 9223372036854775807
def OpR : Reads OpS := fun w cs o => ∃ lv kv, cs = opCells o lv kv ∧ OpIs w lv kv o
theorem OpIs.calm {w w' : World} {lv kv : Value} {o : OpS} (h : OpIs w lv kv o) (hc : Calm w w') : OpIs w' lv kv o := ⟨h.l.calm StrR.lasts hc, h.keep.calm BoolR.lasts hc, h.n⟩
theorem OpR.lasts : OpR.Lasts := fun _ _ _ _ ⟨lv, kv, e, h⟩ hc => ⟨lv, kv, e, h.calm hc⟩
set_option maxRecDepth 100000 in
theorem opens_op : Opens Try.prog 36 OpR := fun H enc w base sp held fuel cs x h => by
  obtain ⟨xs, n, _, _, hlen, hxl, hg⟩ := DataW.trod_struct Try.underlying36 h
  rw [show Try.prog.cellsOf 36 = 8 by kernel_rfl] at hlen
  match cs, hlen with
  | [c0, c1, c2, c3, c4, c5, c6, c7], _ =>
    have hx : ∀ i, i < xs.length → ∃ y, xs[i]? = some y := fun i hi => ⟨_, List.getElem?_eq_getElem hi⟩
    simp only [List.size_toArray, List.length_cons, List.length_nil] at hxl
    have g0 := hg 0 _ rfl
    have g1 := hg 1 _ rfl
    have g2 := hg 2 _ rfl
    have g3 := hg 3 _ rfl
    have g4 := hg 4 _ rfl
    have g5 := hg 5 _ rfl
    have g6 := hg 6 _ rfl
    clear hg
    obtain ⟨y0, e0⟩ := hx 0 (by omega)
    obtain ⟨y1, e1⟩ := hx 1 (by omega)
    obtain ⟨y2, e2⟩ := hx 2 (by omega)
    obtain ⟨y3, e3⟩ := hx 3 (by omega)
    obtain ⟨y4, e4⟩ := hx 4 (by omega)
    obtain ⟨y5, e5⟩ := hx 5 (by omega)
    obtain ⟨y6, e6⟩ := hx 6 (by omega)
    rw [e0] at g0
    rw [e1] at g1
    rw [e2] at g2
    rw [e3] at g3
    rw [e4] at g4
    rw [e5] at g5
    rw [e6] at g6
    obtain ⟨k, hk, _⟩ := opens_int Try.underlying3 _ _ _ _ _ _ _ _ _ g0
    obtain ⟨m, hm, _, hm2⟩ := opens_int Try.underlying3 _ _ _ _ _ _ _ _ _ g1
    obtain ⟨a, ha, _⟩ := opens_string Try.underlying9 _ _ _ _ _ _ _ _ _ g2
    obtain ⟨b, hb, _⟩ := opens_string Try.underlying9 _ _ _ _ _ _ _ _ _ g3
    obtain ⟨s, hs, _⟩ := opens_string Try.underlying9 _ _ _ _ _ _ _ _ _ g4
    obtain ⟨l, lv, hl, hlr⟩ := opens_slice (c := 1) Try.underlying31 (by kernel_rfl) (by decide) (opens_string Try.underlying9) _ _ _ _ _ _ _ _ _ g5
    obtain ⟨ys, n2, _, _, hlen2, hyl, hg2⟩ := DataW.trod_struct Try.underlying34 g6
    simp only [List.size_toArray, List.length_cons, List.length_nil] at hyl
    have q0 := hg2 0 _ rfl
    have q1 := hg2 1 _ rfl
    clear hg2
    rw [List.getElem?_eq_getElem (by omega)] at q0 q1
    obtain ⟨keep, kv, hkv, hkr⟩ := opens_slice (c := 1) Try.underlying32 (by kernel_rfl) (by decide) (opens_bool Try.underlying4) _ _ _ _ _ _ _ _ _ q0
    obtain ⟨lack, hla, _⟩ := opens_int Try.underlying3 _ _ _ _ _ _ _ _ _ q1
    refine ⟨⟨k, m, a, b, s, l, keep, lack⟩, lv, kv, ?_, hlr, hkr, hm2⟩
    have n1 : Try.prog.cellsOf 3 = 1 := by kernel_rfl
    have n2 : Try.prog.cellsOf 9 = 1 := by kernel_rfl
    have n3 : Try.prog.cellsOf 31 = 1 := by kernel_rfl
    have n4 : Try.prog.cellsOf 32 = 1 := by kernel_rfl
    have n5 : Try.prog.cellsOf 34 = 2 := by kernel_rfl
    simp [n1, n2, n3, n4, n5] at hk hm ha hb hs hl hkv hla
    subst hk hm ha hb hs hl hkv hla
    rfl

section
variable {w w' : World} {p : Nat} {D : DiskS} {F : Nat → Prop}
theorem _root_.Go.Proofs.Ytbmhjojlbmbpkaa.Owns.apart {α : Type} {R : Reads α} {c : Nat} {W w : World} {F : Nat → Prop} {v : Value} {l : List α} (h : Owns W w F) (hr : RowsAt R c W v l) : Apart v F := fun a n m e hn hf => by
  have := hr.lt e hn
  have := h.foot _ hf
  omega
theorem RowsAt_bools {v : Value} {l : List Bool} (h : RowsAt BoolR 1 w v l) : ∃ a cap, v = .slice a l.length cap ∧ l.length ≤ cap ∧ BoolsAt w a l := by
  obtain ⟨a, cap, rfl, h2, _, h4⟩ := h
  refine ⟨a, cap, rfl, h2, fun k hk => ?_⟩
  obtain ⟨b, off, cs, e, _, _, hcell, hr⟩ := h4 k hk
  refine ⟨b, off, e, ?_⟩
  have := hcell 0 (by omega)
  unfold BoolR at hr
  rw [hr] at this
  simpa using this

def DoDone (D : DiskS) (o : OpS) (p : Nat) (F : Nat → Prop) (w : World) (e : Ending) (w' : World) : Prop :=
  ∃ b F', w.heap.size ≤ b ∧ e = .returned (.int .i64 (D.does o b).1) ∧ DiskAt w' p (D.does o b).2 F' ∧ Step F w F' w'
theorem DoDone.of {o : OpS} {w1 : World} (hc : Calm w w1) {r : Int × DiskS} (hr : ∀ b, D.does o b = r) {F' : Nat → Prop} {n : Int} (hn : n = r.1) (hd : DiskAt w' p r.2 F') (hs : Step F w1 F' w') : DoDone D o p F w (.returned (.int .i64 n)) w' := by
  subst hn
  exact ⟨w.heap.size, F', Nat.le_refl _, by rw [hr], by rw [hr]; exact hd, Step.calm_left hc hs⟩

set_option maxRecDepth 100000 in
set_option maxHeartbeats 4000000 in
theorem Do_any (o : OpS) (lv kv : Value) (w : World) (h : DiskAt w p D F) (hg : Good D) (ho : OpIs w lv kv o) (hl : Apart lv F) (hk : Apart kv F) (hwl : D.waits.length ≤ 1000000) (hs : o.s.size ≤ 1000000000) (hll : o.l.length ≤ 4294967296) (hkl : o.keep.length ≤ 1000000) :
    Calls Try.prog 16 #[ptrTo p, .agg (opCells o lv kv).toArray] w (DoDone D o p F w) := by
  obtain ⟨k, n, a, b, s, l, keep, lack⟩ := o
  obtain ⟨ho1, ho2, ho3⟩ := ho
  simp only at ho1 ho2 ho3 hs hll hkl
  obtain ⟨ka, kcap, rfl, hkc, hkb⟩ := RowsAt_bools ho2
  obtain ⟨hls, _, _⟩ := ho1.strs
  have hc : Calm w (w.alloc (.cells #[.int .i64 k, .int .i64 n, .string a, .string b, .string s, lv, .slice ka keep.length kcap, .int .i64 lack] 36)) := (Calm.refl w).alloc _
  have h1 := h.calm hc
  have Hc := box hc
  show Calls Try.prog 16 #[ptrTo p, .agg #[.int .i64 k, .int .i64 n, .string a, .string b, .string s, lv, .slice ka keep.length kcap, .int .i64 lack]] w _
  obtain ⟨la, ll, lc, rfl⟩ : ∃ la ll lc, lv = .slice la ll lc := by rcases hls with ⟨_, a, c, rfl⟩ | ⟨b, o, c, rfl, _⟩ <;> exact ⟨_, _, _, rfl⟩
  by_cases k0 : k = 0
  · subst k0
    have hr := box (show ∀ x, D.does ⟨0, n, a, b, s, l, keep, lack⟩ x = D.create a x from fun _ => rfl)
    have H := box (Create_any _ a h1 hg.left)
    clear h h1 hg ho1 ho2 hls hkb hl hk hwl hc
    go_enter Try.func16, Try.ntmps16
    go_wp2_with fail
    refine H.out.mono ?_
    rintro e w2 ⟨b0, F2, hb0, rfl, hd2, hs2⟩
    go_wp2_with fail
    go_ret
    exact ⟨b0, F2, Nat.le_trans Hc.out.size hb0, ret_int (by rw [hr.out]), by rw [hr.out]; exact hd2, Step.calm_left Hc.out hs2⟩
  by_cases k1 : k = 1
  · subst k1
    have hr := box (show ∀ x, D.does ⟨1, n, a, b, s, l, keep, lack⟩ x = D.write a n s from fun _ => rfl)
    have H := box (Write_any a s n _ h1 hg.left hwl (by have := hg.sizeN; omega) hs hg.cap (fun f hf => by have := (hg.file hf).1; omega))
    clear h h1 hg ho1 ho2 hls hkb hl hk hwl hc
    go_enter Try.func16, Try.ntmps16
    go_wp2_with fail
    refine H.out.mono ?_
    rintro e w2 ⟨rfl, F2, hd2, hs2⟩
    go_wp2_with fail
    go_ret
    exact DoDone.of Hc.out hr.out rfl hd2 hs2
  by_cases k2 : k = 2
  · subst k2
    have hr := box (show ∀ x, D.does ⟨2, n, a, b, s, l, keep, lack⟩ x = D.sync l from fun _ => rfl)
    have H := box (Sync_any (.slice la ll lc) l _ h1 (hls.calm hc) hl hll hg.left hwl)
    clear h h1 hg ho1 ho2 hls hkb hl hk hwl hc
    go_enter Try.func16, Try.ntmps16
    go_wp2_with fail
    refine H.out.mono ?_
    rintro e w2 ⟨rfl, F2, hd2, hs2⟩
    go_wp2_with fail
    go_ret
    exact DoDone.of Hc.out hr.out rfl hd2 hs2
  by_cases k3 : k = 3
  · subst k3
    have hr := box (show ∀ x, D.does ⟨3, n, a, b, s, l, keep, lack⟩ x = D.cut a n from fun _ => rfl)
    have H := box (Cut_any a n _ h1 hg.left hwl)
    clear h h1 hg ho1 ho2 hls hkb hl hk hwl hc
    go_enter Try.func16, Try.ntmps16
    go_wp2_with fail
    refine H.out.mono ?_
    rintro e w2 ⟨rfl, F2, hd2, hs2⟩
    go_wp2_with fail
    go_ret
    exact DoDone.of Hc.out hr.out rfl hd2 hs2
  by_cases k4 : k = 4
  · subst k4
    have hr := box (show ∀ x, D.does ⟨4, n, a, b, s, l, keep, lack⟩ x = D.rename a b from fun _ => rfl)
    have H := box (Rename_any a b _ h1 hg.left hwl)
    clear h h1 hg ho1 ho2 hls hkb hl hk hwl hc
    go_enter Try.func16, Try.ntmps16
    go_wp2_with fail
    refine H.out.mono ?_
    rintro e w2 ⟨rfl, F2, hd2, hs2⟩
    go_wp2_with fail
    go_ret
    exact DoDone.of Hc.out hr.out rfl hd2 hs2
  by_cases k5 : k = 5
  · subst k5
    have hr := box (show ∀ x, D.does ⟨5, n, a, b, s, l, keep, lack⟩ x = D.delete l from fun _ => rfl)
    have H := box (Delete_any (.slice la ll lc) l _ h1 (hls.calm hc) hl hll hg.left hwl)
    clear h h1 hg ho1 ho2 hls hkb hl hk hwl hc
    go_enter Try.func16, Try.ntmps16
    go_wp2_with fail
    refine H.out.mono ?_
    rintro e w2 ⟨rfl, F2, hd2, hs2⟩
    go_wp2_with fail
    go_ret
    exact DoDone.of Hc.out hr.out rfl hd2 hs2
  by_cases k6 : k = 6
  · subst k6
    have hr := box (show ∀ x, D.does ⟨6, n, a, b, s, l, keep, lack⟩ x = (0, D.fuse n) from fun _ => rfl)
    have H := box (Fuse_any _ n h1)
    clear h h1 hg ho1 ho2 hls hkb hl hk hwl hc
    go_enter Try.func16, Try.ntmps16
    go_wp2_with fail
    refine H.out.mono ?_
    rintro e w2 ⟨rfl, hd2, hs2⟩
    go_wp2_with fail
    go_ret
    exact DoDone.of Hc.out hr.out rfl hd2 hs2
  by_cases k7 : k = 7
  · subst k7
    have hr := box (show ∀ x, D.does ⟨7, n, a, b, s, l, keep, lack⟩ x = (0, D.crashed keep lack) from fun _ => rfl)
    have H := box (Crash_any ka kcap keep lack _ h1 (hkb.calm hc) hk hkc hkl hwl (fun x hx => by have := hg.wait h.form hx; omega) (fun f hf => by have := (hg.file hf).2; omega))
    clear h h1 hg ho1 ho2 hls hkb hl hk hwl hc
    go_enter Try.func16, Try.ntmps16
    go_wp2_with fail
    refine H.out.mono ?_
    rintro e w2 ⟨rfl, F2, hd2, hs2⟩
    go_wp2_with fail
    go_ret
    exact DoDone.of Hc.out hr.out rfl hd2 hs2
  have hr := box (show ∀ x, D.does ⟨k, n, a, b, s, l, keep, lack⟩ x = (0, D) from fun _ => by unfold DiskS.does; simp only [if_neg k0, if_neg k1, if_neg k2, if_neg k3, if_neg k4, if_neg k5, if_neg k6, if_neg k7])
  have t0 : (k == 0) = false := by rw [beq_eq_false_iff_ne]; exact k0
  have t1 : (k == 1) = false := by rw [beq_eq_false_iff_ne]; exact k1
  have t2 : (k == 2) = false := by rw [beq_eq_false_iff_ne]; exact k2
  have t3 : (k == 3) = false := by rw [beq_eq_false_iff_ne]; exact k3
  have t4 : (k == 4) = false := by rw [beq_eq_false_iff_ne]; exact k4
  have t5 : (k == 5) = false := by rw [beq_eq_false_iff_ne]; exact k5
  have t6 : (k == 6) = false := by rw [beq_eq_false_iff_ne]; exact k6
  have t7 : (k == 7) = false := by rw [beq_eq_false_iff_ne]; exact k7
  have H1 := box h1
  clear h h1 hg ho1 ho2 hls hkb hl hk hwl hc k0 k1 k2 k3 k4 k5 k6 k7
  go_enter Try.func16, Try.ntmps16
  go_wp2_with fail
  go_ret
  exact DoDone.of Hc.out hr.out rfl H1.out (.refl _ _)
end
end Go.Proofs.Ytbmhjojlbmbpkaa.dk
