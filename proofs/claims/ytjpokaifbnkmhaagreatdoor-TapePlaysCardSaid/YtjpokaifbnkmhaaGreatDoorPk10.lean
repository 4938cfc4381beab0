/- Lemmas for this claim. -/
import Derived.Test.YtjpokaifbnkmhaaGreatDoorPk9
set_option maxRecDepth 100000
namespace Go.Proofs.YtjpokaifbnkmhaaGreatDoor.dk
open Go.ChangeShapes Go.WideShapes Go.ChangeAt Go.RowKit
structure Form (D : DiskS) : Prop where
 names : (D.files.map (·.name)).Nodup
 blks : (D.files.map (·.blk)).Nodup
 live : ∀ x ∈ D.waits, ∃ f ∈ D.files, f.blk = x.blk
structure Good (D : DiskS) : Prop where
 left : D.left ≤ 9223372036854775807
 cap : 0 ≤ D.cap ∧ D.cap ≤ 16777216
 size : (D.size : Int) ≤ D.cap
 image : ∀ f ∈ D.files, f.image.size ≤ f.now.size
 waits : ∀ x ∈ D.waits, ∀ f ∈ D.files, f.blk = x.blk → x.off + x.s.size ≤ f.now.size
theorem DiskIn.form {w : World} {p mb : Nat} {wv : Value} {D : DiskS} (h : DiskIn w p mb wv D) : Form D := ⟨h.names, h.blks, h.live⟩
theorem DiskAt.form {w : World} {p : Nat} {D : DiskS} {F : Nat → Prop} (h : DiskAt w p D F) : Form D := by obtain ⟨mb, wv, h, _⟩ := h; exact h.form
variable {D : DiskS}
theorem total_mem {l : List FileS} {f : FileS} (h : f ∈ l) : f.now.size ≤ total l := by
 obtain ⟨l1, l2, rfl⟩ := List.append_of_mem h
 rw [total_split]; omega
theorem total_map_le {l : List FileS} {g : FileS → FileS} (h : ∀ f ∈ l, (g f).now.size ≤ f.now.size) : total (l.map g) ≤ total l := by
 induction l with
 | nil => exact Nat.le_refl _
 | cons f l ih =>
  have h1 := h f (List.mem_cons_self ..)
  have h2 := ih (fun x hx => h x (List.mem_cons_of_mem _ hx))
  unfold total at h2 ⊢
  simp only [List.map_cons, List.foldr_cons]
  omega
theorem total_map_eq {l : List FileS} {g : FileS → FileS} (h : ∀ f ∈ l, (g f).now.size = f.now.size) : total (l.map g) = total l := by
 induction l with
 | nil => rfl
 | cons f l ih =>
  have h1 := h f (List.mem_cons_self ..)
  have h2 := ih (fun x hx => h x (List.mem_cons_of_mem _ hx))
  unfold total at h2 ⊢
  simp only [List.map_cons, List.foldr_cons]
  omega
theorem total_filter_le (l : List FileS) (q : FileS → Bool) : total (l.filter q) ≤ total l := by
 induction l with
 | nil => exact Nat.le_refl _
 | cons f l ih =>
  unfold total at ih ⊢
  rw [List.filter_cons]
  split <;> simp only [List.map_cons, List.foldr_cons] <;> omega
theorem total_append (l1 l2 : List FileS) : total (l1 ++ l2) = total l1 + total l2 := by
 unfold total
 induction l1 with
 | nil => simp
 | cons g l ih => simp only [List.cons_append, List.map_cons, List.foldr_cons] at ih ⊢; omega
theorem Good.file (h : Good D) {f : FileS} (hf : f ∈ D.files) : f.now.size ≤ 16777216 ∧ f.image.size ≤ 16777216 := by
 have h1 := total_mem hf
 have h2 := h.size
 have h3 := h.cap.2
 have h4 := h.image f hf
 unfold DiskS.size at h2
 omega
theorem Good.sizeN (h : Good D) : D.size ≤ 16777216 := by have := h.size; have := h.cap.2; omega
theorem turn_split (hF : Form D) {n : ByteArray} {f : FileS} (hf : D.find n = some f) (g : FileS → FileS) :
  ∃ L1 L2, D.files = L1 ++ f :: L2 ∧ (D.turn n g).files = L1 ++ g f :: L2 ∧ (∀ x ∈ L1 ++ L2, x.name ≠ n ∧ x.blk ≠ f.blk) := by
 obtain ⟨hm, hn⟩ := find_some hf
 obtain ⟨L1, L2, hL⟩ := List.append_of_mem hm
 have h1 := hF.names
 have h2 := hF.blks
 rw [hL, List.map_append, List.map_cons, List.nodup_append, List.nodup_cons] at h1 h2
 have hne : ∀ x ∈ L1 ++ L2, x.name ≠ n ∧ x.blk ≠ f.blk := by
  intro x hx
  rcases List.mem_append.1 hx with hx | hx
  ·exact ⟨fun e => h1.2.2 x.name (List.mem_map.2 ⟨x, hx, rfl⟩) f.name (List.mem_cons_self ..) (by rw [e, hn]), fun e => h2.2.2 x.blk (List.mem_map.2 ⟨x, hx, rfl⟩) f.blk (List.mem_cons_self ..) e⟩
  ·exact ⟨fun e => h1.2.1.1 (by rw [hn, ← e]; exact List.mem_map.2 ⟨x, hx, rfl⟩), fun e => h2.2.1.1 (by rw [← e]; exact List.mem_map.2 ⟨x, hx, rfl⟩)⟩
 refine ⟨L1, L2, hL, ?_, hne⟩
 unfold DiskS.turn
 simp only [hL, List.map_append, List.map_cons, if_pos hn]
 have e1 : ∀ L : List FileS, (∀ x ∈ L, x.name ≠ n) → L.map (fun x => if x.name = n then g x else x) = L := by
  intro L h
  conv => rhs; rw [← List.map_id L]
  exact List.map_congr_left fun x hx => if_neg (h x hx)
 rw [e1 L1 (fun x hx => (hne x (List.mem_append_left _ hx)).1), e1 L2 (fun x hx => (hne x (List.mem_append_right _ hx)).1)]
theorem turn_mem (hF : Form D) {n : ByteArray} {f : FileS} (hf : D.find n = some f) {g : FileS → FileS} {y : FileS} (hy : y ∈ (D.turn n g).files) : y = g f ∨ (y ∈ D.files ∧ y.name ≠ n ∧ y.blk ≠ f.blk) := by
 obtain ⟨L1, L2, h1, h2, h3⟩ := turn_split hF hf g
 rw [h2] at hy
 rw [h1]
 rcases List.mem_append.1 hy with hy | hy
 ·exact .inr ⟨List.mem_append_left _ hy, h3 y (List.mem_append_left _ hy)⟩
 ·rcases List.mem_cons.1 hy with rfl | hy
  ·exact .inl rfl
  ·exact .inr ⟨List.mem_append_right _ (List.mem_cons_of_mem _ hy), h3 y (List.mem_append_right _ hy)⟩
theorem Good.burn (h : Good D) : Good D.burn := by
 obtain ⟨e1, e2, e3⟩ := burn_files (D := D)
 refine ⟨?_, by rw [e3]; exact h.cap, by unfold DiskS.size; rw [e1, e3]; exact h.size, by rw [e1]; exact h.image, by rw [e1, e2]; exact h.waits⟩
 have := h.left
 unfold DiskS.burn; split
 ·show (-1 : Int) ≤ _; omega
 ·split
  ·show D.left - 1 ≤ _; omega
  ·exact this
theorem Form.burn (h : Form D) : Form D.burn := by
 obtain ⟨e1, e2, e3⟩ := burn_files (D := D)
 exact ⟨by rw [e1]; exact h.names, by rw [e1]; exact h.blks, by rw [e1, e2]; exact h.live⟩
theorem Good.doing (h : Good D) {f : DiskS → DiskS} (hf : Good D.burn → Good (f D.burn)) : Good (D.doing f).2 := by
 unfold DiskS.doing; split
 ·exact h.burn
 ·exact hf h.burn
theorem Good.create (h : Good D) (hF : Form D) (n : ByteArray) (b : Nat) (hb : ∀ f ∈ D.files, f.blk ≠ b) : Good (D.create n b).2 := by
 unfold DiskS.create
 split
 ·exact h
 ·split
  ·exact h
  ·refine h.doing fun hb' => ⟨hb'.left, hb'.cap, ?_, ?_, ?_⟩
   ·have := hb'.size
    unfold DiskS.size at this ⊢
    rw [total_append, show total [(⟨n, b, ⟨#[]⟩, ⟨#[]⟩⟩ : FileS)] = 0 from rfl]
    exact this
   ·intro f hf
    rcases List.mem_append.1 hf with hf | hf
    ·exact hb'.image f hf
    ·rw [List.mem_singleton] at hf; subst hf; exact Nat.le_refl _
   ·intro x hx f hf he
    rcases List.mem_append.1 hf with hf | hf
    ·exact hb'.waits x hx f hf he
    ·rw [List.mem_singleton] at hf; subst hf
     obtain ⟨g, hg, hge⟩ := hF.burn.live x hx
     rw [burn_files.1] at hg
     exact absurd (hge.trans he.symm) (hb g hg)
theorem laid_le (s : ByteArray) (k : Nat) (o : ByteArray) (ho : o.size ≠ 0) : s.size ≤ (laid s k o).size ∧ k + o.size ≤ (laid s k o).size := by
 unfold laid laidL pad
 rw [if_neg (by intro h; apply ho; simpa using congrArg List.length h)]
 show s.size ≤ (_ : List UInt8).toArray.size ∧ k + o.size ≤ (_ : List UInt8).toArray.size
 simp; omega
theorem Good.write (h : Good D) (hF : Form D) (n : ByteArray) (k : Int) (s : ByteArray) : Good (D.write n k s).2 := by
 unfold DiskS.write
 split
 ·exact h
 ·split
  ·exact h
  ·rename_i f hf
   split
   ·exact h
   ·rename_i hr
    split
    ·exact h
    ·rename_i hroom
     refine h.doing fun hb => ?_
     split
     ·exact hb
     ·rename_i hs
      have hfb : D.burn.find n = some f := by rw [burn_find]; exact hf
      obtain ⟨L1, L2, e1, e2, e3⟩ := turn_split hF.burn hfb (fun f => { f with now := laid f.now k.toNat s })
      have hsz := hb.size
      have hle := laid_size f.now k.toNat s
      have hge := laid_le f.now k.toNat s hs
      have hmf := (find_some hfb).1
      have hsize : D.burn.size = D.size := by unfold DiskS.size; rw [burn_files.1]
      have hcap : D.burn.cap = D.cap := burn_files.2.2
      refine ⟨hb.left, hb.cap, ?_, ?_, ?_⟩
      ·unfold DiskS.size at hsz hsize hroom ⊢
       show (total (D.burn.turn n _).files : Int) ≤ D.burn.cap
       rw [e2, total_split]
       rw [e1, total_split] at hsz
       rw [← burn_files (D := D) |>.1, e1, total_split] at hroom
       simp only
       omega
      ·intro y hy
       rcases turn_mem hF.burn hfb hy with rfl | ⟨hy, _⟩
       ·have := hb.image f hmf
        simp only
        omega
       ·exact hb.image y hy
      ·intro x hx y hy he
       rcases List.mem_append.1 hx with hx | hx
       ·rcases turn_mem hF.burn hfb hy with rfl | ⟨hy, _⟩
        ·have := hb.waits x hx f hmf he
         simp only
         omega
        ·exact hb.waits x hx y hy he
       ·rw [List.mem_singleton] at hx
        subst hx
        rcases turn_mem hF.burn hfb hy with rfl | ⟨hy, _, hne⟩
        ·exact hge.2
        ·exact absurd he hne
theorem Form.last (hF : Form D) (n : ByteArray) : Form (D.last n) := by
 unfold DiskS.last
 cases hf : D.find n with
 | none => exact hF
 | some f =>
  have hs := turn_same (D := D) (n := n) (g := fun f => { f with image := f.now }) (fun _ => ⟨rfl, rfl⟩)
  have hn : (D.turn n (fun f => { f with image := f.now })).files.map (·.name) = D.files.map (·.name) := by
   have := congrArg (List.map fun x : Value × Value => match x.1 with | .string s => s | _ => ByteArray.empty) hs.1
   simpa [List.map_map, Function.comp_def, encF] using this
  refine ⟨by show ((D.turn n _).files.map (·.name)).Nodup; rw [hn]; exact hF.names, by show ((D.turn n _).files.map (·.blk)).Nodup; rw [hs.2]; exact hF.blks, ?_⟩
  intro x hx
  have hx' := (List.mem_filter.1 hx).1
  obtain ⟨y, hy, he⟩ := hF.live x hx'
  have : y.blk ∈ (D.turn n (fun f => { f with image := f.now })).files.map (·.blk) := by rw [hs.2]; exact List.mem_map.2 ⟨y, hy, rfl⟩
  obtain ⟨z, hz, hze⟩ := List.mem_map.1 this
  exact ⟨z, hz, hze.trans he⟩
theorem Good.last (h : Good D) (hF : Form D) (n : ByteArray) : Good (D.last n) ∧ (D.last n).size = D.size := by
 unfold DiskS.last
 cases hf : D.find n with
 | none => exact ⟨h, rfl⟩
 | some f =>
  have hsz : (D.turn n (fun f => { f with image := f.now })).size = D.size := total_map_eq (fun x _ => by split <;> rfl)
  refine ⟨⟨h.left, h.cap, by show ((D.turn n _).size : Int) ≤ _; rw [hsz]; exact h.size, ?_, ?_⟩, hsz⟩
  ·intro y hy
   rcases turn_mem hF hf hy with rfl | ⟨hy, _⟩
   ·exact Nat.le_refl _
   ·exact h.image y hy
  ·intro x hx y hy he
   have hx' := (List.mem_filter.1 hx).1
   rcases turn_mem hF hf hy with rfl | ⟨hy, _⟩
   ·exact h.waits x hx' f (find_some hf).1 he
   ·exact h.waits x hx' y hy he
theorem Good.lasts (l : List ByteArray) : ∀ {D : DiskS}, Good D → Form D → Good (l.foldl DiskS.last D) ∧ (l.foldl DiskS.last D).size = D.size := by
 induction l with
 | nil => exact fun h _ => ⟨h, rfl⟩
 | cons n l ih =>
  intro D h hF
  obtain ⟨h1, h2⟩ := h.last hF n
  obtain ⟨h3, h4⟩ := ih h1 (hF.last n)
  exact ⟨h3, h4.trans h2⟩
theorem Good.sync (h : Good D) (hF : Form D) (l : List ByteArray) : Good (D.sync l).2 := by
 unfold DiskS.sync; split
 ·exact h
 ·exact h.doing fun hb => (Good.lasts l hb hF.burn).1
theorem Good.cut (h : Good D) (hF : Form D) (n : ByteArray) (k : Int) : Good (D.cut n k).2 := by
 unfold DiskS.cut
 split
 ·exact h
 ·split
  ·exact h
  ·rename_i f hf
   split
   ·exact h
   ·rename_i hr
    refine h.doing fun hb => ?_
    have hfb : D.burn.find n = some f := by rw [burn_find]; exact hf
    have hft : (D.burn.turn n (fun f => { f with now := f.now.extract 0 k.toNat })).find n = some { f with now := f.now.extract 0 k.toNat } := by
     have hm := (find_some hfb)
     obtain ⟨L1, L2, e1, e2, e3⟩ := turn_split hF.burn hfb (fun f => { f with now := f.now.extract 0 k.toNat })
     unfold DiskS.find
     rw [e2, List.find?_append, List.find?_cons]
     have : L1.find? (fun f => decide (f.name = n)) = none := by
      rw [List.find?_eq_none]; intro x hx; simpa using (e3 x (List.mem_append_left _ hx)).1
     simp [this, hm.2]
    unfold DiskS.last
    rw [hft]
    simp only
    have hsz : ∀ x : FileS, (x.now.extract 0 k.toNat).size ≤ x.now.size := fun x => by rw [ByteArray.size_extract]; omega
    refine ⟨hb.left, hb.cap, ?_, ?_, ?_⟩
    ·have h1 : ((D.burn.turn n (fun f => { f with now := f.now.extract 0 k.toNat })).turn n (fun f => { f with image := f.now })).size ≤ D.burn.size := by
      refine Nat.le_trans (total_map_le (fun x _ => by split <;> exact Nat.le_refl _)) ?_
      exact total_map_le (fun x _ => by split; exact hsz x; exact Nat.le_refl _)
     exact Int.le_trans (Int.ofNat_le.2 h1) hb.size
    ·intro y hy
     have hy' : y ∈ (D.burn.turn n (fun f => ({ f with now := f.now.extract 0 k.toNat, image := f.now.extract 0 k.toNat } : FileS))).files := by
      unfold DiskS.turn at hy ⊢
      simp only [DiskS.without, List.map_map] at hy
      obtain ⟨z, hz, rfl⟩ := List.mem_map.1 hy
      refine List.mem_map.2 ⟨z, hz, ?_⟩
      simp only [Function.comp]
      by_cases hzn : z.name = n
      ·simp [hzn]
      ·simp [hzn]
     rcases turn_mem hF.burn hfb hy' with rfl | ⟨hy, _⟩
     ·exact Nat.le_refl _
     ·exact hb.image y hy
    ·intro x hx y hy he
     have hx' := List.mem_filter.1 hx
     have hy' : y ∈ (D.burn.turn n (fun f => ({ f with now := f.now.extract 0 k.toNat, image := f.now.extract 0 k.toNat } : FileS))).files := by
      unfold DiskS.turn at hy ⊢
      simp only [DiskS.without, List.map_map] at hy
      obtain ⟨z, hz, rfl⟩ := List.mem_map.1 hy
      refine List.mem_map.2 ⟨z, hz, ?_⟩
      simp only [Function.comp]
      by_cases hzn : z.name = n
      ·simp [hzn]
      ·simp [hzn]
     rcases turn_mem hF.burn hfb hy' with rfl | ⟨hy, _⟩
     ·have := hx'.2
      simp only [Bool.not_eq_true', decide_eq_false_iff_not] at this
      exact absurd he.symm this
     ·exact hb.waits x hx'.1 y hy he
theorem Form.drop (hF : Form D) (n : ByteArray) : Form (D.drop n) := by
 unfold DiskS.drop
 cases hf : D.find n with
 | none => exact hF
 | some f =>
  have hs : ∀ {β : Type} (q : FileS → β), (D.files.map q).Nodup → ((D.files.filter fun x => !decide (x.name = n)).map q).Nodup := fun q h => h.sublist ((List.filter_sublist).map q)
  refine ⟨hs _ hF.names, hs _ hF.blks, ?_⟩
  intro x hx
  obtain ⟨hx1, hx2⟩ := List.mem_filter.1 hx
  obtain ⟨g, hg, he⟩ := hF.live x hx1
  refine ⟨g, List.mem_filter.2 ⟨hg, ?_⟩, he⟩
  simp only [Bool.not_eq_true', decide_eq_false_iff_not] at hx2 ⊢
  intro e
  obtain ⟨h1, h2⟩ := find_some hf
  have : g = f := nodup_inj hF.names hg h1 (by rw [e, h2])
  subst this
  exact hx2 he.symm
theorem Good.drop (h : Good D) (n : ByteArray) : Good (D.drop n) := by
 unfold DiskS.drop
 cases hf : D.find n with
 | none => exact h
 | some f =>
  refine ⟨h.left, h.cap, ?_, fun y hy => h.image y (List.mem_filter.1 hy).1, fun x hx y hy he => h.waits x (List.mem_filter.1 hx).1 y (List.mem_filter.1 hy).1 he⟩
  have h1 := h.size
  have h2 := total_filter_le D.files (fun x => !decide (x.name = n))
  unfold DiskS.size at h1 ⊢
  show (total (D.files.filter _) : Int) ≤ D.cap
  omega
theorem Good.drops (l : List ByteArray) : ∀ {D : DiskS}, Good D → Good (l.foldl DiskS.drop D) := by
 induction l with
 | nil => exact fun h => h
 | cons n l ih => exact fun h => ih (h.drop n)
theorem Good.delete (h : Good D) (l : List ByteArray) : Good (D.delete l).2 := by
 unfold DiskS.delete; split
 ·exact h
 ·exact h.doing fun hb => Good.drops l hb
theorem Good.fuse (h : Good D) (n : Int) (hn : n ≤ 9223372036854775807) : Good (D.fuse n) := by
 refine ⟨?_, h.cap, h.size, h.image, h.waits⟩
 show max n (-1) ≤ _
 omega
theorem new_good (n : Int) : Good (new n) := ⟨by show (-1 : Int) ≤ _; omega, by show 0 ≤ min (max n 0) 16777216 ∧ _; simp only [new]; omega, by show ((0 : Nat) : Int) ≤ min (max n 0) 16777216; omega, fun f hf => by (cases hf), fun x hx => by (cases hx)⟩
end Go.Proofs.YtjpokaifbnkmhaaGreatDoor.dk
