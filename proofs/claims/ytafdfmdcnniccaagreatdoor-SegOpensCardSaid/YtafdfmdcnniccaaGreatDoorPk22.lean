/- SegOpens: what its walk holds, once files lie there. -/
import Derived.Test.YtafdfmdcnniccaaGreatDoorRows
import Derived.WalkKit
import Derived.ProofKit
import Derived.OpenShut
import Derived.Handy
import Derived.Deep.LoopGhost
import Derived.Lib.Hide
import Derived.Lib.Strings
import Derived.SizedLaws
import Derived.Maps.Own
import Derived.Maps.OwnOps
import Derived.Maps.OwnSet
import Derived.Maps.RangeWalk
import Derived.Deep.QuietTactic
import Derived.BigQuiet
import Derived.Deep.RegionHeld3
import Derived.Lib.ConvBytes
import Derived.Lib.AppendZeros
import Derived.Lib.AppendZerosOnto
import Derived.Lib.LazyBuf
import Derived.Shelf.Abstract
import Derived.LaidEql
import Derived.Lib.SliceRun
import Derived.StillTailTactics
import Derived.Deep.Slices
import Derived.Lib.Atoi
import Derived.Lib.ItoaNum
import Derived.Lib.SlTrimSet
import Derived.Shelf.SlIter.Nil
import Derived.Ground.GgzProg
import Derived.Shelf.SortM.Plain
import Derived.Shelf.SortM.SortNone
import Derived.Ground.SlgmProg
import Derived.Shelf.SlicesE.DeleteFunc
import Derived.Ground.SlgfProg
import Derived.Test.YtafdfmdcnniccaaGreatDoorProg
import Derived.Shelf.Strings.Builder1
import Derived.Shelf.Strings.Builder2
import Derived.Shelf.Strings.Trim
import Derived.Shelf.Small.Utf8
import Derived.Shelf.Small.Bits
import Derived.Shelf.Small.Strs
import Derived.Shelf.Small.Wraps
import Derived.Shelf.Strings.BuilderF
import Derived.Shelf.Strings.BuilderK
import Derived.Shelf.Strings.Builder2Cap
import Derived.Shelf.Strconv.Atoi
import Derived.Shelf.Strconv.Itoa0
import Derived.Shelf.Strconv.Itoa1
import Derived.Shelf.LaysM
import Derived.Shelf.Strconv.Itoa2
import Derived.Shelf.Strconv.Itoa3
import Derived.Shelf.Strings.Search1
import Derived.Shelf.Strings.Prefix
import Derived.Shelf.Strings.Runes
import Derived.Shelf.Strings.AsciiSet
import Derived.Shelf.Bits.Mul64
import Derived.Shelf.Strings.Repeat
import Derived.Shelf.Unicode.DecodeSlow
import Derived.Shelf.Strings.BuilderCap
import Derived.Ground.Names2Prog
import Derived.Shelf.Slices.Clone
import Derived.Ground.SlgnProg
import Derived.Shelf.SlicesE.Clone
import Derived.Shelf.SlicesE.IndexFunc
import Derived.Shelf.Strings.SlTrimAscii
import Derived.Lib.Repeat
import Derived.Lib.LaidTab
import Derived.Deep.RegionLaw
import Derived.Deep.RegionWith
import Derived.Lib.AtoiErrMem
import Derived.Test.YtafdfmdcnniccaaGreatDoorPk21
namespace Go.Proofs.YtafdfmdcnniccaaGreatDoor.sopens
open Go.ChangeShapes Go.WideShapes Go.ChangeAt Go.RowKit Go.ChangeMaps
open Go.Proofs.YtafdfmdcnniccaaGreatDoor.dk Go.Proofs.YtafdfmdcnniccaaGreatDoor.sg

section
variable {W w w' : World} {p mb n m k q N r st cnt fin : Nat} {D E : DiskS} {F F' : Nat → Prop} {L M : List (Nat × Nat)}
/-- Another file. -/
theorem Ost.another (h : Ost W p mb n m L M w) (s : ByteArray) (hs : placeOf hN s = none) (hz : s.size ≤ 1000) :
    Calls Tryz.prog 11 #[ptrTo p, .string s] w fun e w' => (∃ c, e = .returned (.int .i64 c)) ∧ Ost W p mb n (m + 1) L M w' := by
  obtain ⟨D, F, h1, h2, h3, h4, h5⟩ := h.at_
  refine (Create_ok s w h1).mono ?_
  rintro e w' ⟨b, hb, rfl, F', hd, hst⟩
  cases hx : D.bytes s with
  | some t =>
    have hc : D.create s b = (10, D) := by
      unfold DiskS.create
      rw [if_neg (by rw [h2.alive.down]; decide), if_pos (by rw [bytes_has, hx]; rfl)]
    rw [hc] at hd ⊢
    exact ⟨⟨_, rfl⟩, h.step (fun _ _ _ _ _ => trivial) h5 h4 hd hst (h2.mono (Nat.le_succ m)) h3⟩
  | none =>
    obtain ⟨E, e1, e2, e3, _⟩ := h2.create hx hz b
    rw [e1] at hd ⊢
    exact ⟨⟨_, rfl⟩, h.step (fun _ _ _ _ _ => trivial) h5 h4 hd hst e3 (h3.other hs e2)⟩
/-- .. so many files. -/
structure Ofx (W : World) (p mb n m N : Nat) (L : List (Nat × Nat)) (w : World) : Prop where
  at_ : ∃ D F, DiskOk w p D F n ∧ Able D 65536 m ∧ HasD D L ∧ (∀ b, F b → W.heap.size ≤ b) ∧ ¬ F mb ∧ D.files.length = N
  map : MapIs w mb (.int .i64) (encH L)
  calm : Calm W w
theorem List_len (s : ByteArray) (h : DiskOk w p D F n) (ha : Able D 65536 m) (hm : m ≤ 1000) (hs : s = ⟨#[]⟩) :
    Calls Tryz.prog 14 #[ptrTo p, .string s] w fun e w' => ∃ a c, e = .returned (.slice a D.files.length c) ∧ Calm w w' := by
  subst hs
  refine (List_any ⟨#[]⟩ w h.lies (fun f hf => by have := ha.file f hf; unfold maxLen; omega) (by have := ha.files; omega)).mono ?_
  rintro e w' ⟨lv, rfl, hls, hc, _⟩
  obtain ⟨a, c, rfl, _⟩ := hls.uni
  rw [names_len]
  exact ⟨a, c, rfl, hc⟩
theorem Ost.list (h : Ost W p mb n m L L w) (hm : m ≤ 1000) :
    Calls Tryz.prog 14 #[ptrTo p, .string ⟨#[]⟩] w fun e w' => ∃ N a c, e = .returned (.slice a N c) ∧ N ≤ 1000 ∧ Ofx W p mb n m N L w' := by
  obtain ⟨D, F, h1, h2, h3, h4, h5⟩ := h.at_
  refine (List_len ⟨#[]⟩ h1 h2 hm rfl).mono ?_
  rintro e w' ⟨a, c, rfl, hc⟩
  exact ⟨_, a, c, rfl, by have := h2.files; omega, ⟨D, F, h1.calm hc, h2, h3, h4, h5, rfl⟩, h.map.calm hc, h.calm.trans hc⟩
/-- The length of a place's file. -/
def fL (L : List (Nat × Nat)) (k : Nat) : Option Nat := (L.find? (fun x => decide (x.1 = k))).map (·.2)
theorem fL_mem (hn : (L.map (·.1)).Nodup) : fL L k = some q ↔ (k, q) ∈ L := by
  unfold fL
  constructor
  · intro h
    cases hf : L.find? (fun x => decide (x.1 = k)) with
    | none => rw [hf] at h; cases h
    | some x =>
      rw [hf] at h
      have h1 := List.find?_some hf
      have h2 := List.mem_of_find?_eq_some hf
      simp at h h1
      rw [← h, ← h1]
      exact h2
  · intro h
    cases hf : L.find? (fun x => decide (x.1 = k)) with
    | none =>
      have := List.find?_eq_none.1 hf (k, q) h
      simp at this
    | some x =>
      have h1 := List.find?_some hf
      have h2 := List.mem_of_find?_eq_some hf
      have h1 : x.1 = k := by simpa using h1
      have := nodup_inj hn h2 h h1
      rw [this]; rfl
theorem HasD.fit (h : HasD D L) (hF : dk.Form D) : Fit (fL L) 16 (foundD D hN 16).start (foundD D hN 16).cnt (foundD D hN 16).fin ∧ (foundD D hN 16).others.length + (foundD D hN 16).cnt = L.length := by
  have hmem : ∀ k, k ∈ placesL D hN ↔ k ∈ L.map (·.1) := fun k => by
    rw [mem_places]
    constructor
    · rintro ⟨a1, a2⟩; exact (h.places k a1).1 a2
    · intro hk
      obtain ⟨x, hx, rfl⟩ := List.mem_map.1 hk
      have := (h.lens x hx).1
      exact ⟨this, (h.places _ this).2 hk⟩
  have h1 := found_fit (f := fL L) (size := 16) (D := D) (head := hN) hF (by decide) (fun k => by
    by_cases hk : k ∈ placesL D hN
    · rw [if_pos hk]
      obtain ⟨x, hx, rfl⟩ := List.mem_map.1 ((hmem k).1 hk)
      rw [fL_mem h.nodup, (h.lens x hx).2.2]
      exact hx
    · rw [if_neg hk]
      cases hf : fL L k with
      | none => rfl
      | some q => exact absurd ((hmem k).2 (List.mem_map.2 ⟨_, (fL_mem h.nodup).1 hf, rfl⟩)) hk)
  refine ⟨h1.1, ?_⟩
  rw [h1.2, show L.length = (L.map (·.1)).length from (List.length_map _).symm]
  exact ((List.perm_ext_iff_of_nodup ((places_rise hF hN).imp (fun h => Nat.ne_of_lt h)) h.nodup).2 hmem).length_eq
theorem drop_len (hF : dk.Form D) {s : ByteArray} (hh : D.has s = true) : (D.drop s).files.length + 1 = D.files.length := by
  obtain ⟨f, hf, rfl⟩ := has_file.1 hh
  unfold DiskS.drop
  cases hx : D.find f.name with
  | none => exact absurd rfl (find_none hx f hf)
  | some g =>
    have hg := find_some hx
    have hgf : g = f := nodup_inj hF.names hg.1 hf hg.2
    subst hgf
    obtain ⟨l1, l2, e⟩ := List.append_of_mem hf
    have hn := hF.names
    simp only [DiskS.without]
    rw [e, List.map_append, List.map_cons, List.nodup_append, List.nodup_cons] at hn
    rw [e, List.filter_append, List.filter_cons, if_neg (by simp), List.filter_eq_self.2 (fun y hy => ?_), List.filter_eq_self.2 (fun y hy => ?_)]
    · simp
      omega
    · have : y.name ≠ g.name := fun e2 => hn.2.1.1 (by rw [← e2]; exact List.mem_map.2 ⟨y, hy, rfl⟩)
      simpa using this
    · have : y.name ≠ g.name := fun e2 => hn.2.2 y.name (List.mem_map.2 ⟨y, hy, rfl⟩) g.name (List.mem_cons_self ..) e2
      simpa using this
theorem drops_len (l : List ByteArray) : ∀ D : DiskS, dk.Form D → l.Nodup → (∀ s ∈ l, D.has s = true) → (l.foldl DiskS.drop D).files.length + l.length = D.files.length := by
  induction l with
  | nil => exact fun _ _ _ _ => rfl
  | cons s l ih =>
    intro D hF hn hh
    rw [List.nodup_cons] at hn
    have h1 := drop_len hF (hh s (List.mem_cons_self ..))
    have h2 := ih (D.drop s) (drops_form [s] D hF) hn.2 (fun t ht => by
      rw [bytes_has, drop_bytes, if_neg (fun e : t = s => hn.1 (by rw [← e]; exact ht)), ← bytes_has]
      exact hh t (List.mem_cons_of_mem _ ht))
    rw [List.foldl_cons, List.length_cons]
    omega
theorem one_others (D : DiskS) (head s : ByteArray) (size : Nat) (x : FoundS) : (findOne D head size x s).others = x.others ∨ (findOne D head size x s).others = x.others ++ [s] := by
  unfold findOne findStep
  split
  · exact .inl rfl
  · split
    · exact .inr rfl
    · split
      · exact .inr rfl
      · exact .inl rfl
theorem others_sub (D : DiskS) (head : ByteArray) (size : Nat) : ∀ (l : List ByteArray) (x : FoundS), (l.foldl (findOne D head size) x).others.Sublist (x.others ++ l)
  | [], x => by rw [List.append_nil]; exact List.Sublist.refl _
  | s :: l, x => by
    rw [List.foldl_cons]
    refine (others_sub D head size l _).trans ?_
    rcases one_others D head s size x with h | h
    · rw [h]; exact List.Sublist.append_left (List.sublist_cons_self _ _) _
    · rw [h, List.append_assoc]; exact List.Sublist.refl _
/-- The row that is opened, and what it leaves. -/
structure Oe (W : World) (p r mb N : Nat) (L : List (Nat × Nat)) (st cnt fin : Nat) (w : World) : Prop where
  at_ : ∃ E R F v m, SegAt W w r p 999 E R F v ∧ Able E 65536 m ∧ m ≤ 1000 ∧ R.start = st ∧ R.fin = fin ∧ E.files.length + L.length = N + cnt
  fit : Fit (fL L) 16 st cnt fin
  few : cnt ≤ L.length
  nodup : (L.map (·.1)).Nodup
  lens : ∀ x ∈ L, x.1 < 100000000 ∧ x.2 < 20
  map : MapIs w mb (.int .i64) (encH L)
theorem Ofx.open (h : Ofx W p mb n m N L w) (ht : Tab W) (hn : n ≤ 999) (hm : m ≤ 1000) :
    Calls Tryz.prog 15 #[ptrTo p, .string hN, .int .i64 16] w fun e w' => ∃ r st cnt fin, e = .returned (.tuple #[ptrTo r, .int .i64 0]) ∧ Oe W p r mb N L st cnt fin w' := by
  obtain ⟨D, F, h1, h2, h3, h4, h5, h6⟩ := h.at_
  have hsub := others_sub D hN 16 (D.names hN) ⟨0, 0, 0, true, []⟩
  rw [List.nil_append] at hsub
  have hsub : (foundD D hN 16).others.Sublist (D.names hN) := hsub
  have hhas : ∀ s ∈ (foundD D hN 16).others, D.has s = true := fun s hs => (mem_names.1 (hsub.subset hs)).1
  have hnd : (foundD D hN 16).others.Nodup := hsub.nodup ((names_pair h1.form hN).imp (fun h => h.2))
  obtain ⟨f1, f2⟩ := h3.fit h1.form
  obtain ⟨E, e1, e2, e3⟩ : ∃ E, openD D hN 16 = (0, E, (foundD D hN 16).row hN 16) ∧ Able E 65536 m ∧ E.files.length + (foundD D hN 16).others.length = D.files.length := by
    by_cases h0 : (foundD D hN 16).others = []
    · refine ⟨D, ?_, h2, by rw [h0]; rfl⟩
      unfold openD
      rw [if_neg (by omega), if_neg (by rw [h2.alive.down]; decide)]
      exact if_pos h0
    · obtain ⟨E, d1, d2, d3, d4⟩ := h2.delete hhas
      refine ⟨E, ?_, d4, by rw [d2]; exact drops_len _ D h1.form hnd hhas⟩
      unfold openD
      rw [if_neg (by omega), if_neg (by rw [h2.alive.down]; decide)]
      refine (if_neg h0).trans ?_
      rw [show (D.delete (foundD D hN (16 : Int).toNat).others) = (0, E) from d1]
      rfl
  refine (Open_any hN 16 w h1 ht h.calm h4 (by omega) (by decide) h2.file (by have := h2.files; omega)).mono ?_
  rintro e w' ⟨rv, F', rfl, hD, hs, hx⟩
  rw [e1] at hD hx ⊢
  rcases hx with ⟨h, _⟩ | ⟨_, r, v, rfl, hr, hS, hv⟩
  · exact absurd rfl h
  · refine ⟨r, _, _, _, rfl, ⟨E, _, F', v, m, hS.mono hn, e2, hm, rfl, rfl, by omega⟩, f1, by omega, h3.nodup, fun x hx => ⟨(h3.lens x hx).1, (h3.lens x hx).2.1⟩, h.map.same (hs.keeps.block mb h.map.lt h5)⟩
theorem Oe.drew (h : Oe W p r mb N L st cnt fin w) (hc : Calm w w') : Oe W p r mb N L st cnt fin w' := by
  obtain ⟨E, R, F, v, m, h1, h2⟩ := h.at_
  exact ⟨⟨E, R, F, v, m, h1.drew hc, h2⟩, h.fit, h.few, h.nodup, h.lens, h.map.calm hc⟩
theorem Oe.owns (h : Oe W p r mb N L st cnt fin w) : Calm W w := by
  obtain ⟨E, R, F, v, m, h1, h2⟩ := h.at_
  exact h1.calm
theorem Oe.begin (h : Oe W p r mb N L st cnt fin w) : Calls Tryz.prog 16 #[ptrTo r] w fun e w' => e = .returned (.int .i64 (st : Int)) ∧ w = w' := by
  obtain ⟨E, R, F, v, m, h1, h2, h3, rfl, h5⟩ := h.at_
  exact Begin_any w h1.row
theorem Oe.end_ (h : Oe W p r mb N L st cnt fin w) : Calls Tryz.prog 17 #[ptrTo r] w fun e w' => e = .returned (.int .i64 (fin : Int)) ∧ w = w' := by
  obtain ⟨E, R, F, v, m, h1, h2, h3, h4, rfl, h5⟩ := h.at_
  exact End_any w h1.row
theorem Oe.list (h : Oe W p r mb N L st cnt fin w) : Calls Tryz.prog 14 #[ptrTo p, .string ⟨#[]⟩] w fun e w' => ∃ (K : Nat) (a : Option Addr) (c : Nat), e = .returned (.slice a K c) ∧ K ≤ 1000 ∧ K + L.length = N + cnt ∧ Calm w w' := by
  obtain ⟨E, R, F, v, m, h1, h2, h3, h4, h5, h6⟩ := h.at_
  refine (List_len ⟨#[]⟩ h1.disk h2 h3 rfl).mono ?_
  rintro e w' ⟨a, c, rfl, hc⟩
  exact ⟨_, a, c, rfl, by have := h2.files; omega, h6, hc⟩
/-- A look at the map. -/
theorem Oe.hit (h : Oe W p r mb N L st cnt fin w) (hq : fL L k = some q) : ∀ w', Calm w w' → (Instr.lookup 28 (.map (some mb)) (.int .i64 (k : Int)) true).run Tryz.prog w' = .ok (.tuple #[.int .i64 (q : Int), .bool true]) w' := fun w' hc => by
  have := (h.map.calm hc).hit (P := Tryz.prog) Tryz.underlying28 Tryz.underlying3 (key := .int .i64 (k : Int)) (v := .int .i64 (q : Int)) rfl (List.mem_map.2 ⟨_, (fL_mem h.nodup).1 hq, rfl⟩) true
  simpa using this
theorem Oe.miss (h : Oe W p r mb N L st cnt fin w) (hq : fL L k = none) : ∀ w', Calm w w' → (Instr.lookup 28 (.map (some mb)) (.int .i64 (k : Int)) true).run Tryz.prog w' = .ok (.tuple #[.int .i64 0, .bool false]) w' := fun w' hc => by
  have := (h.map.calm hc).miss (P := Tryz.prog) (z := .int .i64 0) Tryz.underlying28 Tryz.underlying3 (key := .int .i64 (k : Int)) rfl (by kernel_rfl) (fun y hy => by
    obtain ⟨x, hx, rfl⟩ := List.mem_map.1 hy
    intro e
    have e : x.1 = k := by
      simp only [Value.int.injEq, true_and] at e; omega
    have := (fL_mem h.nodup).2 (show (k, x.2) ∈ L by rw [← e]; exact hx)
    rw [hq] at this; cases this) true
  simpa using this
/-- The least place that may begin a row, as far as was looked. -/
def BeginIs (L left : List (Nat × Nat)) (b : Int) : Prop :=
  (∀ x ∈ left, x ∈ L) ∧ ((b = -1 ∧ ∀ x ∈ L, ¬ x ∈ left → x.1 % 16 = 0 → 16 < x.2) ∨ (∃ x ∈ L, x.1 % 16 = 0 ∧ x.2 ≤ 16 ∧ b = (x.1 : Int) ∧ ∀ y ∈ L, ¬ y ∈ left → y.1 % 16 = 0 → y.2 ≤ 16 → x.1 ≤ y.1))
theorem BeginIs.new (L : List (Nat × Nat)) : BeginIs L L (-1) := ⟨fun _ h => h, .inl ⟨rfl, fun x hx hn => absurd hx hn⟩⟩
theorem BeginIs.step {l1 l2 : List (Nat × Nat)} {x : Nat × Nat} {b : Int} (h : BeginIs L (l1 ++ x :: l2) b) :
    BeginIs L (l1 ++ l2) (if (x.1 % 16 = 0 ∧ x.2 ≤ 16) ∧ (b < 0 ∨ (x.1 : Int) < b) then (x.1 : Int) else b) := by
  obtain ⟨h1, h2⟩ := h
  have hx : x ∈ L := h1 x (by simp)
  have hmem : ∀ y, y ∈ l1 ++ x :: l2 ↔ y = x ∨ y ∈ l1 ++ l2 := fun y => by rw [List.mem_append, List.mem_cons, List.mem_append, or_left_comm]
  have hcase : ∀ {y}, ¬ y ∈ l1 ++ l2 → y = x ∨ ¬ y ∈ l1 ++ x :: l2 := fun {y} hy => by
    by_cases he : y = x
    · exact .inl he
    · exact .inr (fun hm => ((hmem y).1 hm).elim he hy)
  refine ⟨fun y hy => h1 y ((hmem y).2 (.inr hy)), ?_⟩
  split
  · rename_i hc
    obtain ⟨⟨c1, c2⟩, c3⟩ := hc
    right
    refine ⟨x, hx, c1, c2, rfl, fun y hy hn g1 g2 => ?_⟩
    rcases hcase hn with rfl | hn
    · exact Nat.le_refl _
    · rcases h2 with ⟨rfl, h2⟩ | ⟨z, hz, z1, z2, rfl, z3⟩
      · have := h2 y hy hn g1; omega
      · have := z3 y hy hn g1 g2; omega
  · rename_i hc
    rcases h2 with ⟨rfl, h2⟩ | ⟨z, hz, z1, z2, rfl, z3⟩
    · left
      refine ⟨rfl, fun y hy hn g1 => ?_⟩
      rcases hcase hn with rfl | hn
      · by_cases g2 : 16 < y.2
        · exact g2
        · exact absurd ⟨⟨g1, by omega⟩, .inl (by decide)⟩ hc
      · exact h2 y hy hn g1
    · right
      refine ⟨z, hz, z1, z2, rfl, fun y hy hn g1 g2 => ?_⟩
      rcases hcase hn with rfl | hn
      · by_cases g3 : z.1 ≤ y.1
        · exact g3
        · exact absurd ⟨⟨g1, g2⟩, .inr (by omega)⟩ hc
      · exact z3 y hy hn g1 g2
end
end Go.Proofs.YtafdfmdcnniccaaGreatDoor.sopens
