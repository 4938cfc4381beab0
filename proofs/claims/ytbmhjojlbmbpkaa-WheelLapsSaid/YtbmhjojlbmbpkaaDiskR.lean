/- Layer 4: the disk's calls, told of a disk that is good; Read. -/
import Derived.Test.YtbmhjojlbmbpkaaDiskQ
namespace Go.Proofs.Ytbmhjojlbmbpkaa.dk
open Go.ChangeShapes Go.WideShapes Go.ChangeAt Go.RowKit

/-- A good disk lies at p, in the blocks of F; at most n writes wait. -/
structure DiskOk (w : World) (p : Nat) (D : DiskS) (F : Nat → Prop) (n : Nat) : Prop where
  lies : DiskAt w p D F
  good : Good D
  waits : D.waits.length ≤ n
/-- What a call leaves. -/
def OkDone (r : Int × DiskS) (p : Nat) (F : Nat → Prop) (n : Nat) (w : World) (e : Ending) (w' : World) : Prop := e = .returned (.int .i64 r.1) ∧ ∃ F', DiskOk w' p r.2 F' n ∧ Step F w F' w'
theorem OkDone.at {r : Int × DiskS} {p n : Nat} {F : Nat → Prop} {w w' : World} {e : Ending} (h : OkDone r p F n w e w') {k : Int} {E : DiskS} (hr : r = (k, E)) : e = .returned (.int .i64 k) ∧ ∃ F', DiskOk w' p E F' n ∧ Step F w F' w' := by
  subst hr; exact h

section
variable {w w' : World} {p n : Nat} {D : DiskS} {F : Nat → Prop}
theorem DiskOk.calm (h : DiskOk w p D F n) (hc : Calm w w') : DiskOk w' p D F n := ⟨h.lies.calm hc, h.good, h.waits⟩
theorem DiskOk.mono (h : DiskOk w p D F n) {m : Nat} (hm : n ≤ m) : DiskOk w p D F m := ⟨h.lies, h.good, Nat.le_trans h.waits hm⟩
theorem DiskOk.form (h : DiskOk w p D F n) : Form D := h.lies.form
theorem DiskOk.foot_lt (h : DiskOk w p D F n) : ∀ b, F b → b < w.heap.size := by
  obtain ⟨mb, wv, h1, rfl⟩ := h.lies; exact h1.foot_lt
theorem DiskOk.keep (h : DiskOk w p D F n) {G : Nat → Prop} (k : Keeps G w w') (hG : ∀ b, F b → ¬ G b) : DiskOk w' p D F n := by
  obtain ⟨mb, wv, h1, rfl⟩ := h.lies
  exact ⟨⟨mb, wv, h1.keep k hG, rfl⟩, h.good, h.waits⟩
theorem DiskOk.head (h : DiskOk w p D F n) : F p := by obtain ⟨mb, wv, h1, rfl⟩ := h.lies; exact .inl rfl

theorem doing_waits {f : DiskS → DiskS} {m : Nat} (h : D.waits.length ≤ m) (hf : (f D.burn).waits.length ≤ m) : (D.doing f).2.waits.length ≤ m := by
  unfold DiskS.doing; split
  · rw [burn_files.2.1]; exact h
  · exact hf
theorem create_waits (s : ByteArray) (b : Nat) : (D.create s b).2.waits.length ≤ D.waits.length := by
  unfold DiskS.create; split; exact Nat.le_refl _
  split; exact Nat.le_refl _
  exact doing_waits (Nat.le_refl _) (by show D.burn.waits.length ≤ _; rw [burn_files.2.1]; exact Nat.le_refl _)
theorem write_waits (s : ByteArray) (k : Int) (t : ByteArray) : (D.write s k t).2.waits.length ≤ D.waits.length + 1 := by
  unfold DiskS.write; split; exact Nat.le_succ _
  split; exact Nat.le_succ _
  split; exact Nat.le_succ _
  split; exact Nat.le_succ _
  refine doing_waits (by omega) ?_
  split
  · rw [burn_files.2.1]; omega
  · show (D.burn.waits ++ _).length ≤ _
    rw [burn_files.2.1]; simp
theorem lasts_waits (l : List ByteArray) : ∀ D : DiskS, (l.foldl DiskS.last D).waits.length ≤ D.waits.length := by
  induction l with
  | nil => exact fun _ => Nat.le_refl _
  | cons n l ih => exact fun D => Nat.le_trans (ih _) (last_waits n)
theorem sync_waits (l : List ByteArray) : (D.sync l).2.waits.length ≤ D.waits.length := by
  unfold DiskS.sync; split; exact Nat.le_refl _
  exact doing_waits (Nat.le_refl _) (by have := lasts_waits l D.burn; rw [burn_files.2.1] at this; exact this)
theorem cut_waits (s : ByteArray) (k : Int) : (D.cut s k).2.waits.length ≤ D.waits.length := by
  unfold DiskS.cut; split; exact Nat.le_refl _
  split; exact Nat.le_refl _
  split; exact Nat.le_refl _
  refine doing_waits (Nat.le_refl _) (Nat.le_trans (last_waits s) ?_)
  show D.burn.waits.length ≤ _
  rw [burn_files.2.1]; exact Nat.le_refl _
theorem drops_waits (l : List ByteArray) : ∀ D : DiskS, (l.foldl DiskS.drop D).waits.length ≤ D.waits.length := by
  induction l with
  | nil => exact fun _ => Nat.le_refl _
  | cons n l ih => exact fun D => Nat.le_trans (ih _) (drop_waits n)
theorem delete_waits (l : List ByteArray) : (D.delete l).2.waits.length ≤ D.waits.length := by
  unfold DiskS.delete; split; exact Nat.le_refl _
  exact doing_waits (Nat.le_refl _) (by have := drops_waits l D.burn; rw [burn_files.2.1] at this; exact this)
theorem rename_waits (a b : ByteArray) : (D.rename a b).2.waits.length ≤ D.waits.length := by
  unfold DiskS.rename; split; exact Nat.le_refl _
  split; exact Nat.le_refl _
  refine doing_waits (Nat.le_refl _) ?_
  split
  · rw [burn_files.2.1]; exact Nat.le_refl _
  · have := drop_waits (D := D.burn) b
    rw [burn_files.2.1] at this; exact this

theorem Create_ok (s : ByteArray) (w : World) (h : DiskOk w p D F n) : Calls Try.prog 13 #[ptrTo p, .string s] w
    fun e w' => ∃ b, w.heap.size ≤ b ∧ OkDone (D.create s b) p F n w e w' :=
  (Create_any w s h.lies h.good.left).mono fun _ _ ⟨b, F', hb, he, hd, hs⟩ =>
    ⟨b, hb, he, F', ⟨hd, h.good.create h.form s b (fun f hf e => by
      have : F f.blk := by obtain ⟨mb, wv, h1, rfl⟩ := h.lies; exact .inr (.inr (.inr (List.mem_map.2 ⟨f, hf, rfl⟩)))
      have := h.foot_lt _ this
      omega), Nat.le_trans (create_waits s b) h.waits⟩, hs⟩
theorem Write_ok (s t : ByteArray) (k : Int) (w : World) (h : DiskOk w p D F n) (hn : n ≤ 1000000) (ht : t.size ≤ 1000000000) : Calls Try.prog 14 #[ptrTo p, .string s, .int .i64 k, .string t] w (OkDone (D.write s k t) p F (n + 1) w) :=
  (Write_any s t k w h.lies h.good.left (Nat.le_trans h.waits hn) (by have := h.good.sizeN; omega) ht h.good.cap (fun f hf => by have := (h.good.file hf).1; omega)).mono fun _ _ ⟨he, F', hd, hs⟩ =>
    ⟨he, F', ⟨hd, h.good.write h.form _ _ _, Nat.le_trans (write_waits _ _ _) (Nat.succ_le_succ h.waits)⟩, hs⟩
theorem Sync_ok (v : Value) (l : List ByteArray) (w : World) (h : DiskOk w p D F n) (hn : n ≤ 1000000) (hv : StrsAt w v l) (hap : Apart v F) (hl : l.length ≤ 4294967296) : Calls Try.prog 15 #[ptrTo p, v] w (OkDone (D.sync l) p F n w) :=
  (Sync_any v l w h.lies hv hap hl h.good.left (Nat.le_trans h.waits hn)).mono fun _ _ ⟨he, F', hd, hs⟩ => ⟨he, F', ⟨hd, h.good.sync h.form _, Nat.le_trans (sync_waits _) h.waits⟩, hs⟩
theorem Cut_ok (s : ByteArray) (k : Int) (w : World) (h : DiskOk w p D F n) (hn : n ≤ 1000000) : Calls Try.prog 40 #[ptrTo p, .string s, .int .i64 k] w (OkDone (D.cut s k) p F n w) :=
  (Cut_any s k w h.lies h.good.left (Nat.le_trans h.waits hn)).mono fun _ _ ⟨he, F', hd, hs⟩ => ⟨he, F', ⟨hd, h.good.cut h.form _ _, Nat.le_trans (cut_waits _ _) h.waits⟩, hs⟩
theorem Rename_ok (a b : ByteArray) (w : World) (h : DiskOk w p D F n) (hn : n ≤ 1000000) : Calls Try.prog 41 #[ptrTo p, .string a, .string b] w (OkDone (D.rename a b) p F n w) :=
  (Rename_any a b w h.lies h.good.left (Nat.le_trans h.waits hn)).mono fun _ _ ⟨he, F', hd, hs⟩ => ⟨he, F', ⟨hd, h.good.rename h.form _ _, Nat.le_trans (rename_waits _ _) h.waits⟩, hs⟩
theorem Delete_ok (v : Value) (l : List ByteArray) (w : World) (h : DiskOk w p D F n) (hn : n ≤ 1000000) (hv : StrsAt w v l) (hap : Apart v F) (hl : l.length ≤ 4294967296) : Calls Try.prog 42 #[ptrTo p, v] w (OkDone (D.delete l) p F n w) :=
  (Delete_any v l w h.lies hv hap hl h.good.left (Nat.le_trans h.waits hn)).mono fun _ _ ⟨he, F', hd, hs⟩ => ⟨he, F', ⟨hd, h.good.delete _, Nat.le_trans (delete_waits _) h.waits⟩, hs⟩
theorem Crash_ok (ka : Option Addr) (kcap : Nat) (keep : List Bool) (lack : Int) (w : World) (h : DiskOk w p D F n) (hn : n ≤ 1000000) (hk : BoolsAt w ka keep) (hap : Apart (.slice ka keep.length kcap) F) (hkc : keep.length ≤ kcap) (hkl : keep.length ≤ 1000000) :
    Calls Try.prog 19 #[ptrTo p, .agg #[.slice ka keep.length kcap, .int .i64 lack]] w fun e w' => e = .returned (.tuple #[]) ∧ ∃ F', DiskOk w' p (D.crashed keep lack) F' 0 ∧ Step F w F' w' :=
  (Crash_any ka kcap keep lack w h.lies hk hap hkc hkl (Nat.le_trans h.waits hn) (fun x hx => by have := h.good.wait h.form hx; omega) (fun f hf => by have := (h.good.file hf).2; omega)).mono fun _ _ ⟨he, F', hd, hs⟩ =>
    ⟨he, F', ⟨hd, (h.good.crashed _ _).1, Nat.le_refl _⟩, hs⟩
theorem New_ok (w : World) (c : Int) : Calls Try.prog 12 #[.int .i64 c] w fun e w' => ∃ p F, e = .returned (ptrTo p) ∧ DiskOk w' p (new c) F 0 ∧ Calm w w' ∧ ∀ b, F b → w.heap.size ≤ b :=
  (New_any w c).mono fun _ _ ⟨p, F, he, hd, hc, hF⟩ => ⟨p, F, he, ⟨hd, new_good c, Nat.le_refl _⟩, hc, hF⟩
theorem Do_ok (o : OpS) (lv kv : Value) (w : World) (h : DiskOk w p D F n) (hn : n ≤ 1000000) (ho : OpIs w lv kv o) (hl : Apart lv F) (hk : Apart kv F) (hs : o.s.size ≤ 1000000000) (hll : o.l.length ≤ 4294967296) (hkl : o.keep.length ≤ 1000000) :
    Calls Try.prog 16 #[ptrTo p, .agg (opCells o lv kv).toArray] w fun e w' => ∃ b, w.heap.size ≤ b ∧ OkDone (D.does o b) p F (n + 1) w e w' :=
  (Do_any o lv kv w h.lies h.good ho hl hk (Nat.le_trans h.waits hn) hs hll hkl).mono fun _ _ ⟨b, F', hb, he, hd, hs⟩ =>
    ⟨b, hb, he, F', ⟨hd, h.good.does h.form o b (fun f hf e => by
      have : F f.blk := by obtain ⟨mb, wv, h1, rfl⟩ := h.lies; exact .inr (.inr (.inr (List.mem_map.2 ⟨f, hf, rfl⟩)))
      have := h.foot_lt _ this
      omega) ho.n, by
      have := h.waits
      unfold DiskS.does
      split; exact Nat.le_trans (create_waits _ _) (by omega)
      split; exact Nat.le_trans (write_waits _ _ _) (by omega)
      split; exact Nat.le_trans (sync_waits _) (by omega)
      split; exact Nat.le_trans (cut_waits _ _) (by omega)
      split; exact Nat.le_trans (rename_waits _ _) (by omega)
      split; exact Nat.le_trans (delete_waits _) (by omega)
      split; exact Nat.le_trans h.waits (by omega)
      split; exact Nat.zero_le _
      exact Nat.le_trans h.waits (by omega)⟩, hs⟩
/-- What 'Read' tells. -/
def DiskS.read (D : DiskS) (s : ByteArray) (k m : Int) : ByteArray × Int :=
  if (D.all s).2 ≠ 0 then (⟨#[]⟩, (D.all s).2) else if k < 0 ∨ m < 0 ∨ (D.all s).1.size < k ∨ (D.all s).1.size - k < m then (⟨#[]⟩, 2) else ((D.all s).1.extract k.toNat (k + m).toNat, 0)
theorem all_le (h : Good D) (s : ByteArray) : (D.all s).1.size ≤ 16777216 := by
  unfold DiskS.all
  split; exact Nat.zero_le _
  split
  · exact Nat.zero_le _
  · rename_i f hf; exact (h.file (find_some hf).1).1
set_option maxRecDepth 100000 in
set_option maxHeartbeats 1000000 in
theorem Read_ok (s : ByteArray) (k m : Int) (w : World) (h : DiskOk w p D F n) : Calls Try.prog 55 #[ptrTo p, .string s, .int .i64 k, .int .i64 m] w
    fun e w' => e = .returned (.tuple #[.string (D.read s k m).1, .int .i64 (D.read s k m).2]) ∧ Calm w w' := by
  have H := box (All_any w s h.lies)
  have hle := all_le h.good s
  obtain ⟨⟨x, y⟩, hxy⟩ : ∃ r, D.all s = r := ⟨_, rfl⟩
  have hr := box (show D.read s k m = if y ≠ 0 then (⟨#[]⟩, y) else if k < 0 ∨ m < 0 ∨ (x.size : Int) < k ∨ x.size - k < m then (⟨#[]⟩, 2) else (x.extract k.toNat (k + m).toNat, 0) by unfold DiskS.read; rw [hxy])
  rw [hxy] at H hle
  clear h hxy
  simp only at hle H
  by_cases hy : y = 0
  · subst hy
    by_cases hb : k < 0 ∨ m < 0 ∨ (x.size : Int) < k ∨ x.size - k < m
    · have hr := box (show D.read s k m = (⟨#[]⟩, 2) by rw [hr.out, if_neg (by decide), if_pos hb])
      rw [hr.out]
      have hb' : k < 0 ∨ (0 ≤ k ∧ m < 0) ∨ (0 ≤ k ∧ 0 ≤ m ∧ (x.size : Int) < k) ∨ (0 ≤ k ∧ 0 ≤ m ∧ k ≤ x.size ∧ x.size - k < m) := by omega
      clear hb
      rcases hb' with h1 | ⟨h0, h1⟩ | ⟨h0, h1, h2⟩ | ⟨h0, h1, h2, h3⟩
      all_goals
        go_enter Try.func55, Try.ntmps55
        go_wp2_with fail
        refine H.out.mono ?_
        rintro e w' ⟨rfl, hc⟩
        have hc := box hc
        go_wp2_with fail
        go_ret2
        exact ⟨rfl, hc.out⟩
    · have hr := box (show D.read s k m = (x.extract k.toNat (k + m).toNat, 0) by rw [hr.out, if_neg (by decide), if_neg hb])
      rw [hr.out]
      obtain ⟨i, rfl⟩ : ∃ i : Nat, k = i := ⟨k.toNat, by omega⟩
      obtain ⟨j, rfl⟩ : ∃ j : Nat, m = j := ⟨m.toNat, by omega⟩
      have b1 : decide ((x.size : Int) < i) = false := decide_eq_false (by omega)
      have b2 : decide ((x.size : Int) - i < j) = false := decide_eq_false (by omega)
      have b3 : decide (x.size < i) = false := decide_eq_false (by omega)
      have h4 : i + j ≤ x.size := by omega
      have hsl : ∀ W, (Instr.slice 9 (.string x) (some (.int .i64 (i : Int))) (some (.int .i64 ((i : Int) + j))) none).run Try.prog W = .ok (.string (x.extract (i : Int).toNat ((i : Int) + j).toNat)) W := fun W => run_slice_string _ _ _ _ _ _ _ Try.underlying9 (by omega) (by omega) (by omega)
      have hb0 : decide ((i : Int) < 0) = false := decide_eq_false (by omega)
      have hb9 : decide ((j : Int) < 0) = false := decide_eq_false (by omega)
      have q1 : IntKind.i64.wrap ((x.size : Int) - i) = x.size - i := IntWalk.i64_in _ (by omega)
      have q2 : IntKind.i64.wrap ((i : Int) + j) = i + j := IntWalk.i64_in _ (by omega)
      clear hb
      go_enter Try.func55, Try.ntmps55
      go_wp2_with fail
      refine H.out.mono ?_
      rintro e w' ⟨rfl, hc⟩
      have hc := box hc
      go_wp2_with fail
      go_ret2
      exact ⟨rfl, hc.out⟩
  · have hr := box (show D.read s k m = (⟨#[]⟩, y) by rw [hr.out, if_pos hy])
    rw [hr.out]
    have hy' : (y == 0) = false := by rw [beq_eq_false_iff_ne]; exact hy
    clear hy
    go_enter Try.func55, Try.ntmps55
    go_wp2_with fail
    refine H.out.mono ?_
    rintro e w' ⟨rfl, hc⟩
    have hc := box hc
    go_wp2_with fail
    go_ret2
    exact ⟨rfl, hc.out⟩
end
end Go.Proofs.Ytbmhjojlbmbpkaa.dk
