/- Layer 4, plain laws: names' sizes, what is refused changes nothing, capacities stay. -/
import Derived.Test.YtbmhjojlbmbpkaaDiskS
import Derived.Test.YtbmhjojlbmbpkaaList
namespace Go.Proofs.Ytbmhjojlbmbpkaa.dk
open Go.ChangeShapes Go.WideShapes Go.ChangeAt Go.RowKit

/-- At most n files, their names of at most m bytes. -/
structure Small (D : DiskS) (n m : Nat) : Prop where
  many : D.files.length ≤ n
  names : ∀ f ∈ D.files, f.name.size ≤ m
variable {D : DiskS} {n m : Nat}
theorem Small.mono (h : Small D n m) {n' m' : Nat} (h1 : n ≤ n') (h2 : m ≤ m') : Small D n' m' := ⟨Nat.le_trans h.many h1, fun f hf => Nat.le_trans (h.names f hf) h2⟩
theorem Small.of {E : DiskS} (h : Small D n m) (hl : E.files.length ≤ D.files.length) (hn : ∀ f ∈ E.files, ∃ g ∈ D.files, g.name = f.name) : Small E n m :=
  ⟨Nat.le_trans hl h.many, fun f hf => by obtain ⟨g, hg, e⟩ := hn f hf; rw [← e]; exact h.names g hg⟩
theorem Small.same {E : DiskS} (h : Small D n m) (e : E.files = D.files) : Small E n m := ⟨by rw [e]; exact h.many, by rw [e]; exact h.names⟩
theorem Small.burn (h : Small D n m) : Small D.burn n m := ⟨by rw [burn_files.1]; exact h.many, by rw [burn_files.1]; exact h.names⟩
theorem Small.doing (h : Small D n m) {f : DiskS → DiskS} (hf : Small D.burn n m → Small (f D.burn) n m) : Small (D.doing f).2 n m := by
  unfold DiskS.doing; split; exact h.burn
  exact hf h.burn
theorem Small.turn (h : Small D n m) (a : ByteArray) (g : FileS → FileS) (hg : ∀ x, (g x).name = x.name) : Small (D.turn a g) n m :=
  h.of (by unfold DiskS.turn; simp) (fun f hf => by
    obtain ⟨x, hx, rfl⟩ := List.mem_map.1 hf
    exact ⟨x, hx, by split; exact (hg x).symm; rfl⟩)
theorem Small.last (h : Small D n m) (a : ByteArray) : Small (D.last a) n m := by
  unfold DiskS.last; split; exact h
  exact (h.turn a (fun f => { f with image := f.now }) (fun _ => rfl)).same rfl
theorem Small.lasts (l : List ByteArray) : ∀ {D : DiskS}, Small D n m → Small (l.foldl DiskS.last D) n m := by
  induction l with
  | nil => exact fun h => h
  | cons x l ih => exact fun h => ih (h.last x)
theorem Small.drop (h : Small D n m) (a : ByteArray) : Small (D.drop a) n m := by
  unfold DiskS.drop; split; exact h
  exact h.of (List.length_filter_le _ _) (fun f hf => ⟨f, (List.mem_filter.1 hf).1, rfl⟩)
theorem Small.drops (l : List ByteArray) : ∀ {D : DiskS}, Small D n m → Small (l.foldl DiskS.drop D) n m := by
  induction l with
  | nil => exact fun h => h
  | cons x l ih => exact fun h => ih (h.drop x)
theorem Small.create (h : Small D n m) (s : ByteArray) (hs : s.size ≤ m) (b : Nat) : Small (D.create s b).2 (n + 1) m := by
  have h' := h.mono (Nat.le_succ n) (Nat.le_refl m)
  unfold DiskS.create; split; exact h'
  split; exact h'
  refine h'.doing fun _ => ⟨by have := h.burn.many; simp; omega, fun f hf => ?_⟩
  rcases List.mem_append.1 hf with hf | hf
  · exact h.burn.names f hf
  · rw [List.mem_singleton] at hf; subst hf; exact hs
theorem Small.write (h : Small D n m) (s : ByteArray) (k : Int) (t : ByteArray) : Small (D.write s k t).2 n m := by
  unfold DiskS.write; split; exact h
  split; exact h
  split; exact h
  split; exact h
  refine h.doing fun hb => ?_
  split; exact hb
  exact (hb.turn s (fun f => { f with now := laid f.now k.toNat t }) (fun _ => rfl)).same rfl
theorem Small.sync (h : Small D n m) (l : List ByteArray) : Small (D.sync l).2 n m := by
  unfold DiskS.sync; split; exact h
  exact h.doing fun hb => Small.lasts l hb
theorem Small.cut (h : Small D n m) (s : ByteArray) (k : Int) : Small (D.cut s k).2 n m := by
  unfold DiskS.cut; split; exact h
  split; exact h
  split; exact h
  exact h.doing fun hb => (hb.turn s (fun f => { f with now := f.now.extract 0 k.toNat }) (fun _ => rfl)).last s
theorem Small.delete (h : Small D n m) (l : List ByteArray) : Small (D.delete l).2 n m := by
  unfold DiskS.delete; split; exact h
  exact h.doing fun hb => Small.drops l hb
theorem Small.rename (h : Small D n m) (a b : ByteArray) (hb : b.size ≤ m) : Small (D.rename a b).2 (n + 1) m := by
  have h' := h.mono (Nat.le_succ n) (Nat.le_refl m)
  unfold DiskS.rename; split; exact h'
  split; exact h'
  refine h'.doing fun _ => ?_
  split; exact h'.burn
  have hd := h.burn.drop b
  refine ⟨?_, fun f hf => ?_⟩
  · have := hd.many
    have := List.length_filter_le (fun x : FileS => !decide (x.name = a)) (D.burn.drop b).files
    simp only [List.length_append, List.length_singleton]; omega
  · rcases List.mem_append.1 hf with hf | hf
    · exact hd.names f (List.mem_filter.1 hf).1
    · rw [List.mem_singleton] at hf; subst hf; exact hb
theorem Small.crashed (h : Small D n m) (keep : List Bool) (lack : Int) : Small (D.crashed keep lack) n m :=
  h.of (by unfold DiskS.crashed DiskS.imaged; simp) (fun f hf => by
    unfold DiskS.crashed DiskS.imaged at hf
    simp only [List.map_map] at hf
    obtain ⟨x, hx, rfl⟩ := List.mem_map.1 hf
    exact ⟨x, hx, rfl⟩)
theorem Small.does (h : Small D n m) (o : OpS) (b : Nat) (ha : o.a.size ≤ m) (hb : o.b.size ≤ m) : Small (D.does o b).2 (n + 1) m := by
  have up : ∀ {E : DiskS}, Small E n m → Small E (n + 1) m := fun h => h.mono (Nat.le_succ n) (Nat.le_refl m)
  unfold DiskS.does
  split; exact h.create _ ha _
  split; exact up (h.write _ _ _)
  split; exact up (h.sync _)
  split; exact up (h.cut _ _)
  split; exact h.rename _ _ hb
  split; exact up (h.delete _)
  split; exact up (h.same rfl)
  split; exact up (h.crashed _ _)
  exact up h

theorem drops_cap (l : List ByteArray) : ∀ D : DiskS, (l.foldl DiskS.drop D).cap = D.cap := by
  induction l with
  | nil => exact fun _ => rfl
  | cons x l ih => intro D; rw [List.foldl_cons, ih]; unfold DiskS.drop; split <;> rfl
theorem lasts_cap (l : List ByteArray) : ∀ D : DiskS, (l.foldl DiskS.last D).cap = D.cap := by
  induction l with
  | nil => exact fun _ => rfl
  | cons x l ih => intro D; rw [List.foldl_cons, ih]; unfold DiskS.last; split <;> rfl
theorem doing_cap {f : DiskS → DiskS} (hf : (f D.burn).cap = D.burn.cap) : (D.doing f).2.cap = D.cap := by
  unfold DiskS.doing; split
  · exact burn_files.2.2
  · exact hf.trans burn_files.2.2
theorem does_cap (o : OpS) (b : Nat) : (D.does o b).2.cap = D.cap := by
  unfold DiskS.does
  split
  · unfold DiskS.create; split; rfl
    split; rfl
    exact doing_cap rfl
  split
  · unfold DiskS.write; split; rfl
    split; rfl
    split; rfl
    split; rfl
    exact doing_cap (by split <;> rfl)
  split
  · unfold DiskS.sync; split; rfl
    exact doing_cap (lasts_cap _ _)
  split
  · unfold DiskS.cut; split; rfl
    split; rfl
    split; rfl
    exact doing_cap (by unfold DiskS.last; split <;> rfl)
  split
  · unfold DiskS.rename; split; rfl
    split; rfl
    exact doing_cap (by split; rfl; exact drops_cap [_] _)
  split
  · unfold DiskS.delete; split; rfl
    exact doing_cap (drops_cap _ _)
  split; rfl
  split <;> rfl

/-- What is refused changes neither files nor waiting writes. -/
theorem doing_refused {f : DiskS → DiskS} (h : (D.doing f).1 ≠ 0) : (D.doing f).2.files = D.files ∧ (D.doing f).2.waits = D.waits := by
  unfold DiskS.doing at h ⊢
  split
  · exact ⟨burn_files.1, burn_files.2.1⟩
  · rename_i hb; rw [if_neg hb] at h; exact absurd rfl h
theorem does_refused (o : OpS) (b : Nat) (h : (D.does o b).1 ≠ 0) : (D.does o b).2.files = D.files ∧ (D.does o b).2.waits = D.waits := by
  unfold DiskS.does at h ⊢
  split
  · rename_i hk; rw [if_pos hk] at h
    unfold DiskS.create at h ⊢
    repeat' split
    all_goals first
      | exact ⟨rfl, rfl⟩
      | (rename_i h1 h2; rw [if_neg h1, if_neg h2] at h; exact doing_refused h)
  rename_i k0; rw [if_neg k0] at h
  split
  · rename_i hk; rw [if_pos hk] at h
    unfold DiskS.write at h ⊢
    split; exact ⟨rfl, rfl⟩
    rename_i h1; rw [if_neg h1] at h
    split; exact ⟨rfl, rfl⟩
    rename_i f hf; rw [hf] at h; simp only at h
    split; exact ⟨rfl, rfl⟩
    rename_i h2; rw [if_neg h2] at h
    split; exact ⟨rfl, rfl⟩
    rename_i h3; rw [if_neg h3] at h
    exact doing_refused h
  rename_i k1; rw [if_neg k1] at h
  split
  · rename_i hk; rw [if_pos hk] at h
    unfold DiskS.sync at h ⊢
    split; exact ⟨rfl, rfl⟩
    rename_i h1; rw [if_neg h1] at h
    exact doing_refused h
  rename_i k2; rw [if_neg k2] at h
  split
  · rename_i hk; rw [if_pos hk] at h
    unfold DiskS.cut at h ⊢
    split; exact ⟨rfl, rfl⟩
    rename_i h1; rw [if_neg h1] at h
    split; exact ⟨rfl, rfl⟩
    rename_i f hf; rw [hf] at h; simp only at h
    split; exact ⟨rfl, rfl⟩
    rename_i h2; rw [if_neg h2] at h
    exact doing_refused h
  rename_i k3; rw [if_neg k3] at h
  split
  · rename_i hk; rw [if_pos hk] at h
    unfold DiskS.rename at h ⊢
    split; exact ⟨rfl, rfl⟩
    rename_i h1; rw [if_neg h1] at h
    split; exact ⟨rfl, rfl⟩
    rename_i f hf; rw [hf] at h; simp only at h
    exact doing_refused h
  rename_i k4; rw [if_neg k4] at h
  split
  · rename_i hk; rw [if_pos hk] at h
    unfold DiskS.delete at h ⊢
    split; exact ⟨rfl, rfl⟩
    rename_i h1; rw [if_neg h1] at h
    exact doing_refused h
  rename_i k5; rw [if_neg k5] at h
  split
  · rename_i hk; rw [if_pos hk] at h; exact absurd rfl h
  rename_i k6; rw [if_neg k6] at h
  split
  · rename_i hk; rw [if_pos hk] at h; exact absurd rfl h
  · exact ⟨rfl, rfl⟩
theorem prefix_nil (x : List UInt8) : Lib.hasPrefix x [] = true := by cases x <;> rfl
theorem names_all : (D.names ⟨#[]⟩).length = D.files.length := by
  unfold DiskS.names DiskS.namesL
  rw [List.length_map, List.filter_eq_self.2 (fun x _ => prefix_nil x)]
  simp
end Go.Proofs.Ytbmhjojlbmbpkaa.dk
