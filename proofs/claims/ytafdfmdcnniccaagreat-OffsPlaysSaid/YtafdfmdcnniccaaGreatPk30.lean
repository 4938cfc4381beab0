/- Layer 14's laws, plain: in whatever order unlike offsets are set. -/
import Derived.Test.YtafdfmdcnniccaaGreatRows
import Derived.WalkKit
import Derived.ProofKit
import Derived.OpenShut
import Derived.Handy
import Derived.Deep.LoopGhost
import Derived.Lib.Hide
import Derived.Lib.Strings
import Derived.SizedLaws
import Derived.Maps.Own
import Derived.Maps.OwnOps
import Derived.Maps.OwnSet
import Derived.Maps.RangeWalk
import Derived.Deep.QuietTactic
import Derived.BigQuiet
import Derived.Deep.RegionHeld3
import Derived.Lib.ConvBytes
import Derived.Lib.AppendZeros
import Derived.Lib.AppendZerosOnto
import Derived.Lib.LazyBuf
import Derived.Shelf.Abstract
import Derived.LaidEql
import Derived.Lib.SliceRun
import Derived.StillTailTactics
import Derived.Deep.Slices
import Derived.Outline
import Derived.Laws.Cover1
import Derived.Deep.RegionLaw
import Derived.Deep.DeepCutAuto
import Derived.Deep.CutBlock
import Derived.Shelf.SlicesE.Clone
import Derived.Ground.SlgnProg
import Derived.Test.YtafdfmdcnniccaaGreatProg
import Derived.Shelf.Strings.Builder1
import Derived.Shelf.Small.Bits
import Derived.Shelf.Small.Wraps
import Derived.Shelf.Strings.BuilderF
import Derived.Shelf.Strings.BuilderK
import Derived.Shelf.Strconv.Itoa0
import Derived.Shelf.Sort.Plain
import Derived.Shelf.GgClosure.StringsIndexFunc
import Derived.Ground.GgwProg
import Derived.Shelf.GgClosure.StringsIndexFuncTop
import Derived.Shelf.GgClosure.StringsRunes
import Derived.Shelf.Strings.Prefix
import Derived.Shelf.Strings.BuilderCap
import Derived.Ground.Names2Prog
import Derived.Shelf.Slices.SearchI
import Derived.Shelf.Slices.In.SortNone
import Derived.Ground.SlgfProg
import Derived.Shelf.SlicesE.IndexFunc
import Derived.Shelf.SlicesE.DeleteFunc
import Derived.Lib.DecodeN
import Derived.Lib.Overlaps
import Derived.Laws.CopyOwn
import Derived.Laws.MakeOwn
import Derived.Lib.Builder
import Derived.Lib.AppendStr
import Derived.Laws.Rows
import Derived.Shelf.SlIter.Nil
import Derived.Ground.GgzProg
import Derived.Shelf.SortM.Plain
import Derived.Shelf.SortM.SortNone
import Derived.Ground.SlgmProg
import Derived.Laws.BitsLemmas
import Derived.Laws.ResultCell
import Derived.Laws.StructEq
import Derived.Laws.Cover3
import Derived.OwnWalk
import Derived.Test.YtafdfmdcnniccaaGreatPk29
namespace Go.Proofs.YtafdfmdcnniccaaGreat.ofs
open Go.ChangeShapes Go.WideShapes Go.ChangeAt Go.RowKit
open Go.Proofs.YtafdfmdcnniccaaGreat.dk Go.Proofs.YtafdfmdcnniccaaGreat.nm

def hitO (y x : OffS) : Bool := decide (rightO x = 0) && sameK y x
theorem setL_find {l : List OffS} (h : GoodL l) (x y : OffS) (hlen : l.length < 64) : findO (setL l x) y = if hitO y x = true then some x else findO l y := by
  unfold setL
  by_cases hr : rightO x = 0
  · have hc : setC l x = 0 := by
      unfold setC
      rw [if_neg (by simp [hr])]
      split
      · rfl
      · rw [if_neg (by omega)]
    rw [if_pos hc, set_find x y h.rising]
    unfold hitO
    simp [hr]
  · have hc : setC l x ≠ 0 := by
      unfold setC
      rw [if_pos hr]; exact hr
    rw [if_neg hc]
    unfold hitO
    simp [hr]
theorem setL_len {l : List OffS} (h : GoodL l) (x : OffS) : (setL l x).length ≤ l.length + 1 := by
  unfold setL
  split
  · rw [set_length l x h.rising]
    split <;> omega
  · omega
theorem res_good : ∀ (l acc : List OffS), GoodL acc → GoodL (l.foldl setL acc)
  | [], _, h => h
  | x :: l, acc, h => res_good l (setL acc x) (setL_good h x)
theorem res_find : ∀ (l acc : List OffS), GoodL acc → acc.length + l.length ≤ 64 → ∀ y, findO (l.foldl setL acc) y = match l.reverse.find? (hitO y) with
    | some x => some x
    | none => findO acc y
  | [], acc, _, _, y => rfl
  | x :: l, acc, h, hl, y => by
    rw [List.length_cons] at hl
    have hx := setL_len h x
    have ih := res_find l (setL acc x) (setL_good h x) (by omega) y
    rw [List.foldl_cons, ih, setL_find h x y (by omega), List.reverse_cons, List.find?_append]
    cases l.reverse.find? (hitO y) with
    | some z => rfl
    | none =>
      simp only [List.find?_cons, List.find?_nil]
      cases hitO y x <;> rfl
/-- No two are of the same. -/
def Unlike (l : List OffS) : Prop := l.Pairwise fun a b => sameK a b = false
theorem unlike_one {l : List OffS} (h : Unlike l) {a b : OffS} (ha : a ∈ l) (hb : b ∈ l) (hs : sameK a b = true) : a = b := by
  obtain ⟨i, hi, rfl⟩ := List.getElem_of_mem ha
  obtain ⟨j, hj, rfl⟩ := List.getElem_of_mem hb
  rcases Nat.lt_trichotomy i j with hij | rfl | hij
  · have := List.pairwise_iff_getElem.1 h i j hi hj hij
    rw [hs] at this; cases this
  · rfl
  · have := List.pairwise_iff_getElem.1 h j i hj hi hij
    rw [sameK_comm hs] at this; cases this
theorem hit_same {y a b : OffS} (ha : hitO y a = true) (hb : hitO y b = true) : sameK a b = true := by
  unfold hitO at ha hb
  rw [Bool.and_eq_true] at ha hb
  obtain ⟨a1, a2, a3⟩ := sameK_iff.1 ha.2
  obtain ⟨b1, b2, b3⟩ := sameK_iff.1 hb.2
  exact sameK_iff.2 ⟨b1.trans a1.symm, b2.trans a2.symm, b3.trans a3.symm⟩
theorem find_turned {l : List OffS} (h : Unlike l) (y : OffS) : l.reverse.find? (hitO y) = l.find? (hitO y) := by
  cases h1 : l.find? (hitO y) with
  | none =>
    rw [List.find?_eq_none] at h1 ⊢
    exact fun x hx => h1 x (List.mem_reverse.1 hx)
  | some a =>
    have ha := List.find?_some h1
    have hm := List.mem_of_find?_eq_some h1
    cases h2 : l.reverse.find? (hitO y) with
    | none =>
      rw [List.find?_eq_none] at h2
      exact absurd ha (h2 a (List.mem_reverse.2 hm))
    | some b =>
      have hb := List.find?_some h2
      rw [unlike_one h hm (List.mem_reverse.1 (List.mem_of_find?_eq_some h2)) (hit_same ha hb)]
theorem unlike_turned {l : List OffS} (h : Unlike l) : Unlike l.reverse := by
  unfold Unlike at h ⊢
  rw [List.pairwise_reverse]
  exact h.imp fun {a b} hab => by
    cases hs : sameK b a with
    | false => rfl
    | true => rw [sameK_comm hs] at hab; cases hab
theorem order_same {l : List OffS} (h : Unlike l) (hl : l.length ≤ 30) : l.foldl setL [] = l.reverse.foldl setL [] := by
  refine rising_ext (res_good l [] GoodL.nil).rising (res_good l.reverse [] GoodL.nil).rising fun y => ?_
  rw [res_find l [] GoodL.nil (by simp; omega) y, res_find l.reverse [] GoodL.nil (by simp; omega) y, List.reverse_reverse, find_turned h y]
theorem unlike_snoc {l : List OffS} {k : Nat} (hk : k < l.length) (h : Unlike (l.take k)) (hf : findO (l.take k) l[k] = none) : Unlike (l.take (k + 1)) := by
  rw [List.take_succ_eq_append_getElem hk]
  refine List.pairwise_append.2 ⟨h, List.pairwise_singleton _ _, fun a ha b hb => ?_⟩
  rw [List.mem_singleton] at hb
  subst hb
  have := List.find?_eq_none.1 hf a ha
  cases hs : sameK a l[k] with
  | false => rfl
  | true => exact absurd (sameK_comm hs) this
theorem fold_snoc {l : List OffS} {k : Nat} (hk : k < l.length) : (l.take (k + 1)).foldl setL [] = setL ((l.take k).foldl setL []) l[k] := by
  rw [List.take_succ_eq_append_getElem hk, List.foldl_append]
  rfl
theorem fold_turned {l : List OffS} {k : Nat} (hk : k < l.length) : (l.reverse.take (k + 1)).foldl setL [] = setL ((l.reverse.take k).foldl setL []) (l[l.length - 1 - k]'(by omega)) := by
  have hk' : k < l.reverse.length := by rw [List.length_reverse]; exact hk
  rw [fold_snoc hk', List.getElem_reverse]
end Go.Proofs.YtafdfmdcnniccaaGreat.ofs

/- Layer 14, plain: a flush under a fuse, over whatever earlier ones left. -/
namespace Go.Proofs.YtafdfmdcnniccaaGreat.ofs
open Go.ChangeShapes Go.WideShapes Go.ChangeAt Go.RowKit
open Go.Proofs.YtafdfmdcnniccaaGreat.dk Go.Proofs.YtafdfmdcnniccaaGreat.tp Go.Proofs.YtafdfmdcnniccaaGreat.oc Go.Proofs.YtafdfmdcnniccaaGreat.rc

section
variable {D E : DiskS} {n : ByteArray} {o : Option ByteArray}
theorem doing3 (f : DiskS → DiskS) (hd : D.down = false) : (D.doing f = (8, D.burn) ∧ D.burn.down = true) ∨ (D.doing f = (0, f D.burn) ∧ D.burn.down = false) := by
  unfold DiskS.doing
  by_cases h : D.burns = true
  · refine .inl ⟨if_pos h, ?_⟩
    unfold DiskS.burns at h
    unfold DiskS.burn
    rw [if_pos (by simpa using h)]
  · refine .inr ⟨if_neg h, ?_⟩
    unfold DiskS.burns at h
    have h0 : ¬ D.left = 0 := by simpa using h
    unfold DiskS.burn
    rw [if_neg h0]
    split <;> exact hd
theorem clear3 (hd : D.down = false) : (clearD D n = (8, D.burn) ∧ D.burn.down = true) ∨ ∃ E, clearD D n = (0, E) ∧ E.down = false ∧ E.files = D.files.filter (fun x => !decide (x.name = n)) ∧ (∀ x ∈ E.waits, x ∈ D.waits) ∧ E.cap = D.cap := by
  unfold clearD
  by_cases hx : D.has n = true
  · rw [if_pos hx]
    have hb : D.bars [n] = 0 := by rw [bars_one, if_neg (by rw [hd]; decide), if_pos hx]
    unfold DiskS.delete
    rw [if_neg (by rw [hb]; decide)]
    rcases doing3 (D := D) (fun D => List.foldl DiskS.drop D [n]) hd with h | ⟨h, hdn⟩
    · exact .inl h
    · refine .inr ⟨_, h, ?_⟩
      simp only [List.foldl_cons, List.foldl_nil]
      unfold DiskS.drop
      have hh : D.burn.has n = true := by rw [burn_has]; exact hx
      cases hf : D.burn.find n with
      | none =>
        unfold DiskS.has at hh
        rw [hf] at hh
        cases hh
      | some f =>
        refine ⟨hdn, by simp only [DiskS.without, burn_files.1], fun x hx => ?_, by simp only [DiskS.without, burn_files.2.2]⟩
        simp only [DiskS.without, burn_files.2.1] at hx
        exact (List.mem_filter.1 hx).1
  · rw [if_neg hx]
    refine .inr ⟨D, rfl, hd, (List.filter_eq_self.2 fun f hf => ?_).symm, fun x hx => hx, rfl⟩
    have := find_none_of (by simpa using hx) f hf
    simpa using this
theorem create3 (hd : D.down = false) (hx : D.has n = false) (b : Nat) : (D.create n b = (8, D.burn) ∧ D.burn.down = true) ∨ ∃ E, D.create n b = (0, E) ∧ E.down = false ∧ E.files = D.files ++ [⟨n, b, ⟨#[]⟩, ⟨#[]⟩⟩] ∧ E.waits = D.waits ∧ E.cap = D.cap := by
  unfold DiskS.create
  rw [if_neg (by rw [hd]; decide), if_neg (by rw [hx]; decide)]
  rcases doing3 (D := D) (fun D => { D with files := D.files ++ [⟨n, b, ⟨#[]⟩, ⟨#[]⟩⟩] }) hd with h | ⟨h, hdn⟩
  · exact .inl h
  · exact .inr ⟨_, h, hdn, by simp only [burn_files.1], burn_files.2.1, burn_files.2.2⟩
variable {L : List FileS} {b : Nat} {i s : ByteArray}
theorem write3 (hd : E.down = false) (hL : ∀ f ∈ L, f.name ≠ n) (hE : E.files = L ++ [⟨n, b, ⟨#[]⟩, ⟨#[]⟩⟩]) (hs0 : 0 < s.size) (hroom : (s.size : Int) ≤ E.cap - E.size) :
    (E.write n 0 s = (8, E.burn) ∧ E.burn.down = true) ∨ ∃ E', E.write n 0 s = (0, E') ∧ E'.down = false ∧ E'.files = L ++ [⟨n, b, ⟨#[]⟩, s⟩] ∧ E'.waits = E.waits ++ [(⟨b, 0, s⟩ : WaitS)] ∧ E'.cap = E.cap := by
  unfold DiskS.write
  rw [if_neg (by rw [hd]; decide)]
  have hf : E.find n = some ⟨n, b, ⟨#[]⟩, ⟨#[]⟩⟩ := by unfold DiskS.find; rw [hE]; exact find_last hL _ rfl
  rw [hf]
  simp only
  have h0 : (⟨#[]⟩ : ByteArray).size = 0 := rfl
  rw [if_neg (by rw [h0]; omega), if_neg (by rw [h0]; omega)]
  rcases doing3 (D := E) (fun D => if s.size = 0 then D else { D.turn n (fun f => { f with now := laid f.now (0 : Int).toNat s }) with waits := D.waits ++ [(⟨b, (0 : Int).toNat, s⟩ : WaitS)] }) hd with h | ⟨h, hb⟩
  · exact .inl h
  · refine .inr ⟨_, h, ?_⟩
    rw [if_neg (by omega)]
    refine ⟨hb, ?_, ?_, burn_files.2.2⟩
    · unfold DiskS.turn
      simp only [burn_files.1, hE, turn_last hL ⟨n, b, ⟨#[]⟩, ⟨#[]⟩⟩ rfl]
      rw [show Int.toNat 0 = 0 from rfl, laid_empty]
    · simp only [burn_files.2.1]
      rfl
theorem sync3 (hd : E.down = false) (hL : ∀ f ∈ L, f.name ≠ n) (hE : E.files = L ++ [⟨n, b, i, s⟩]) :
    (E.sync [n] = (8, E.burn) ∧ E.burn.down = true) ∨ ∃ E', E.sync [n] = (0, E') ∧ E'.down = false ∧ E'.files = L ++ [⟨n, b, s, s⟩] ∧ E'.waits = E.waits.filter (fun x => !decide (x.blk = b)) ∧ E'.cap = E.cap := by
  have hb : E.bars [n] = 0 := by
    rw [bars_one, if_neg (by rw [hd]; decide), if_pos ((has_iff _ n).2 ⟨⟨n, b, i, s⟩, by rw [hE]; simp, rfl⟩)]
  unfold DiskS.sync
  rw [if_neg (by rw [hb]; decide)]
  rcases doing3 (D := E) (fun D => List.foldl DiskS.last D [n]) hd with h | ⟨h, hb⟩
  · exact .inl h
  · refine .inr ⟨_, h, ?_⟩
    simp only [List.foldl_cons, List.foldl_nil]
    unfold DiskS.last DiskS.find
    simp only [burn_files.1, hE, find_last hL ⟨n, b, i, s⟩ rfl]
    unfold DiskS.turn DiskS.without
    simp only [burn_files.1, hE, turn_last hL ⟨n, b, i, s⟩ rfl, burn_files.2.1]
    exact ⟨hb, trivial, trivial, burn_files.2.2⟩
theorem rename3 {nm : ByteArray} (hne : n ≠ nm) (hd : E.down = false) (hL : ∀ f ∈ L, f.name ≠ n) (hE : E.files = L ++ [⟨n, b, s, s⟩]) :
    (E.rename n nm = (8, E.burn) ∧ E.burn.down = true) ∨ ∃ E', E.rename n nm = (0, E') ∧ E'.down = false ∧ E'.files = (L.filter fun x => !decide (x.name = nm)) ++ [⟨nm, b, s, s⟩] ∧ (∀ x ∈ E'.waits, x ∈ E.waits) ∧ E'.cap = E.cap := by
  have hfl : ∀ L : List FileS, (∀ f ∈ L, f.name ≠ n) → ((L ++ [(⟨n, b, s, s⟩ : FileS)]).filter fun x => !decide (x.name = n)) = L := fun L hL => by
    rw [List.filter_append, List.filter_eq_self.2 (fun f hf => by simpa using hL f hf)]
    simp
  have hf1 : ((L ++ [(⟨n, b, s, s⟩ : FileS)]).filter fun x => !decide (x.name = nm)) = (L.filter fun x => !decide (x.name = nm)) ++ [⟨n, b, s, s⟩] := by
    rw [List.filter_append]
    simp [hne]
  unfold DiskS.rename
  rw [if_neg (by rw [hd]; decide)]
  have hfd : E.find n = some ⟨n, b, s, s⟩ := by unfold DiskS.find; rw [hE]; exact find_last hL _ rfl
  rw [hfd]
  simp only
  rcases doing3 (D := E) (fun D => if n = nm then D else { D.drop nm with files := ((D.drop nm).files.filter fun x => !decide (x.name = n)) ++ [⟨nm, b, s, s⟩] }) hd with h | ⟨h, hb⟩
  · exact .inl h
  · refine .inr ⟨_, h, ?_⟩
    rw [if_neg hne]
    unfold DiskS.drop
    cases hfm : E.burn.find nm with
    | none =>
      have hnn : ∀ f ∈ L, f.name ≠ nm := fun f hf => find_none hfm f (by rw [burn_files.1, hE]; exact List.mem_append_left _ hf)
      have hfn : (L.filter fun x => !decide (x.name = nm)) = L := List.filter_eq_self.2 (fun f hf => by simpa using hnn f hf)
      refine ⟨hb, ?_, fun x hx => ?_, burn_files.2.2⟩
      · simp only [burn_files.1, hE]
        rw [hfl _ hL, hfn]
      · simp only [burn_files.2.1] at hx; exact hx
    | some f =>
      refine ⟨hb, ?_, fun x hx => ?_, by simp only [DiskS.without, burn_files.2.2]⟩
      · simp only [DiskS.without, burn_files.1, hE]
        rw [hf1, hfl _ (fun f hf => hL f (List.mem_filter.1 hf).1)]
      · simp only [DiskS.without, burn_files.2.1, List.mem_filter] at hx; exact hx.1
abbrev nextN : ByteArray := groupsN ++ freshN
/-- Nothing but what flushes laid. -/
structure Fit (D : DiskS) : Prop where
  cap : D.cap = 65536
  files : ∀ f ∈ D.files, (f.name = groupsN ∨ f.name = nextN) ∧ f.now.size ≤ 2300
theorem two_names : ∀ L : List ByteArray, L.Nodup → (∀ x ∈ L, x = groupsN ∨ x = nextN) → L.length ≤ 2
  | [], _, _ => by simp
  | [_], _, _ => by simp
  | [_, _], _, _ => by simp
  | x :: y :: z :: l, hn, h => by
    have hx := h x (by simp)
    have hy := h y (by simp)
    have hz := h z (by simp)
    simp only [List.nodup_cons, List.mem_cons, not_or] at hn
    obtain ⟨⟨h1, h2, _⟩, ⟨h3, _⟩, _⟩ := hn
    rcases hx with rfl | rfl <;> rcases hy with rfl | rfl <;> rcases hz with rfl | rfl <;> simp_all
theorem total_few (B : Nat) : ∀ l : List FileS, (∀ f ∈ l, f.now.size ≤ B) → total l ≤ B * l.length
  | [], _ => Nat.zero_le _
  | f :: l, h => by
    have h1 := h f (List.mem_cons_self ..)
    have h2 := total_few B l (fun g hg => h g (List.mem_cons_of_mem _ hg))
    have : total (f :: l) = f.now.size + total l := rfl
    rw [this, List.length_cons, Nat.mul_succ]
    omega
theorem Fit.few (h : Fit D) (hf : dk.Form D) : D.files.length ≤ 2 := by
  have := two_names (D.files.map (·.name)) hf.names (fun x hx => by
    obtain ⟨f, hf', rfl⟩ := List.mem_map.1 hx
    exact (h.files f hf').1)
  rwa [List.length_map] at this
theorem Fit.size (h : Fit D) (hf : dk.Form D) : D.size ≤ 4600 := by
  have h1 := total_few 2300 D.files (fun f hf => (h.files f hf).2)
  have h2 := h.few hf
  have : D.size = total D.files := rfl
  have : 2300 * D.files.length ≤ 2300 * 2 := Nat.mul_le_mul_left _ h2
  omega
theorem Fit.burn (h : Fit D) : Fit D.burn := ⟨by rw [burn_files.2.2]; exact h.cap, by rw [burn_files.1]; exact h.files⟩
theorem Fit.crashed (h : Fit D) (hg : dk.Good D) (keep : List Bool) (lack : Int) : Fit (D.crashed keep lack) := by
  refine ⟨h.cap, fun f hf => ?_⟩
  unfold DiskS.crashed DiskS.imaged at hf
  simp only [List.map_map, List.mem_map, Function.comp_def] at hf
  obtain ⟨g, hgm, rfl⟩ := hf
  refine ⟨(h.files g hgm).1, ?_⟩
  have h1 := (h.files g hgm).2
  have h2 := lays_size2 g.now.size g.blk (keptTo keep lack.toNat D.waits (min keep.length D.waits.length)) g.image (hg.image g hgm) (fun y hy he => by
    obtain ⟨x, hx, e1, e2, e3⟩ := keptTo_mem hy
    have := hg.waits x hx g hgm (by rw [← e1, he])
    omega)
  simp only
  omega
/-- What a flush leaves. -/
theorem save_full (hd : D.down = false) (hF : Fit D) (hform : dk.Form D) (t : ByteArray) (ht : t.size ≤ 2241) (b : Nat) (hS : Still D groupsN o) (hblk : ∀ f ∈ D.files, f.blk ≠ b) :
    ∃ c D', saveD D groupsN t b = (c, D') ∧ Fit D' ∧ ((c = 0 ∧ D'.down = false ∧ Still D' groupsN (some (sealB t))) ∨ (c = 8 ∧ D'.down = true ∧ Still D' groupsN o)) := by
  have hne : nextN ≠ groupsN := groups_ne
  have hsz : (sealB t).size = t.size + 4 := sealB_size t
  unfold saveD
  obtain ⟨s, hs⟩ : ∃ s, sealB t = s := ⟨_, rfl⟩
  rw [hs] at hsz ⊢
  have hkeep : ∀ {E : DiskS} {L : List FileS}, (∀ f ∈ E.files, f ∈ L ∨ f.name = nextN) → True := fun _ => trivial
  clear hkeep
  rcases clear3 (D := D) (n := nextN) hd with ⟨h0, hdn⟩ | ⟨E0, h0, d0, f0, w0, c0⟩
  · rw [h0]
    simp only [ne_eq, show ¬ ((8 : Int) = 0) by decide, not_false_eq_true, if_true]
    exact ⟨_, _, rfl, hF.burn, .inr ⟨rfl, hdn, hS.burn⟩⟩
  rw [h0]
  simp only [ne_eq, not_true_eq_false, if_false]
  have hfind0 : E0.find groupsN = D.find groupsN := by
    unfold DiskS.find
    rw [f0, List.find?_filter]
    congr 1; funext x
    by_cases hx : x.name = groupsN
    · simp [hx, Ne.symm hne]
    · simp [hx]
  have S0 : Still E0 groupsN o := hS.of hfind0 (fun _ _ x hx => .inl (w0 x hx))
  have hno : ∀ f ∈ E0.files, f.name ≠ nextN := fun f hf => by
    rw [f0] at hf
    simpa using (List.mem_filter.1 hf).2
  have hsub : ∀ f ∈ E0.files, f ∈ D.files := fun f hf => by rw [f0] at hf; exact (List.mem_filter.1 hf).1
  have F0 : Fit E0 := ⟨by rw [c0]; exact hF.cap, fun f hf => hF.files f (hsub f hf)⟩
  have hsz0 : E0.size ≤ 4600 := by
    have h1 : total E0.files ≤ 2300 * E0.files.length := total_few 2300 E0.files (fun f hf => (F0.files f hf).2)
    have h2 : E0.files.length ≤ 2 := by rw [f0]; exact Nat.le_trans (List.length_filter_le _ _) (hF.few hform)
    have h3 : 2300 * E0.files.length ≤ 2300 * 2 := Nat.mul_le_mul_left _ h2
    have : E0.size = total E0.files := rfl
    omega
  have hx0 : E0.has nextN = false := by
    cases hh : E0.has nextN with
    | false => rfl
    | true =>
      obtain ⟨f, hf, he⟩ := (has_iff E0 _).1 hh
      exact absurd he (hno f hf)
  have end8 : ∀ E' : DiskS, Fit E' → E'.down = true → Still E' groupsN o → laidD E0 nextN s b = (8, E') → ∃ c D', endD (laidD E0 nextN s b) nextN groupsN = (c, D') ∧ Fit D' ∧ ((c = 0 ∧ D'.down = false ∧ Still D' groupsN (some s)) ∨ (c = 8 ∧ D'.down = true ∧ Still D' groupsN o)) := fun E' f1 f2 f3 hl => by
    rw [hl]
    unfold endD
    simp only [ne_eq, show ¬ ((8 : Int) = 0) by decide, not_false_eq_true, if_true, not_true_eq_false, if_false]
    exact ⟨_, _, rfl, f1, .inr ⟨rfl, f2, f3⟩⟩
  have fitL : ∀ (E : DiskS) (x : FileS), E.cap = E0.cap → E.files = E0.files ++ [x] → x.name = nextN → x.now.size ≤ 2300 → Fit E := fun E x hc hf hxn hxs => ⟨by rw [hc]; exact F0.cap, fun f hfm => by
    rw [hf] at hfm
    rcases List.mem_append.1 hfm with h | h
    · exact F0.files f h
    · rw [List.mem_singleton] at h; subst h; exact ⟨.inr hxn, hxs⟩⟩
  have stillL : ∀ (E : DiskS) (x : FileS), E.files = E0.files ++ [x] → x.name = nextN → (∀ y ∈ E.waits, y ∈ E0.waits ∨ y.blk = b) → Still E groupsN o := fun E x hf hxn hw => S0.of (find_app_other hf (by rw [hxn]; exact hne)) (fun f hff y hy => by
    rcases hw y hy with h | h
    · exact .inl h
    · exact .inr (fun e => hblk f (hsub f (find_some hff).1) (e ▸ h)))
  rcases create3 (D := E0) (n := nextN) d0 hx0 b with ⟨h1, hdn⟩ | ⟨E1, h1, d1, f1, w1, c1⟩
  · exact end8 E0.burn F0.burn hdn S0.burn (by unfold laidD; rw [h1]; rfl)
  have z1 : E1.size = E0.size := by unfold DiskS.size; rw [f1, total_append]; rfl
  have F1 : Fit E1 := fitL E1 _ c1 f1 rfl (Nat.zero_le _)
  have S1 : Still E1 groupsN o := stillL E1 _ f1 rfl (fun y hy => .inl (by rw [w1] at hy; exact hy))
  rcases write3 (E := E1) (s := s) d1 hno f1 (by omega) (by rw [c1, z1, F0.cap, hsz]; push_cast; omega) with ⟨h2, hdn⟩ | ⟨E2, h2, d2, f2, w2, c2⟩
  · refine end8 E1.burn F1.burn hdn S1.burn ?_
    unfold laidD
    rw [h1]
    simp only [ne_eq, not_true_eq_false, if_false]
    rw [h2]
    rfl
  have F2 : Fit E2 := fitL E2 _ (c2.trans c1) f2 rfl (by show s.size ≤ 2300; omega)
  have W2 : ∀ y ∈ E2.waits, y ∈ E0.waits ∨ y.blk = b := fun y hy => by
    rw [w2, w1] at hy
    rcases List.mem_append.1 hy with h | h
    · exact .inl h
    · rw [List.mem_singleton] at h; subst h; exact .inr rfl
  have S2 : Still E2 groupsN o := stillL E2 _ f2 rfl W2
  have hl2 : laidD E0 nextN s b = E2.sync [nextN] := by
    unfold laidD
    rw [h1]
    simp only [ne_eq, not_true_eq_false, if_false]
    rw [h2]
    simp only [ne_eq, not_true_eq_false, if_false]
  rcases sync3 (E := E2) d2 hno f2 with ⟨h3, hdn⟩ | ⟨E3, h3, d3, f3, w3, c3⟩
  · exact end8 E2.burn F2.burn hdn S2.burn (hl2.trans h3)
  have F3 : Fit E3 := fitL E3 _ (c3.trans (c2.trans c1)) f3 rfl (by show s.size ≤ 2300; omega)
  have S3 : Still E3 groupsN o := stillL E3 _ f3 rfl (fun y hy => W2 y (by rw [w3] at hy; exact (List.mem_filter.1 hy).1))
  rw [hl2, h3]
  unfold endD
  simp only [ne_eq, not_true_eq_false, if_false]
  rcases rename3 (E := E3) hne d3 hno f3 with ⟨h4, hdn⟩ | ⟨E4, h4, d4, f4, w4, c4⟩
  · rw [h4]
    exact ⟨_, _, rfl, F3.burn, .inr ⟨rfl, hdn, S3.burn⟩⟩
  · rw [h4]
    refine ⟨_, _, rfl, ⟨by rw [c4, c3, c2, c1]; exact F0.cap, fun f hf => ?_⟩, .inl ⟨rfl, d4, ?_⟩⟩
    · rw [f4] at hf
      rcases List.mem_append.1 hf with h | h
      · exact F0.files f (List.mem_filter.1 h).1
      · rw [List.mem_singleton] at h; subst h; exact ⟨.inl rfl, by show s.size ≤ 2300; omega⟩
    · have hf4 : E4.find groupsN = some ⟨groupsN, b, s, s⟩ := by
        unfold DiskS.find
        rw [f4]
        exact find_last (fun f hf => by simpa using (List.mem_filter.1 hf).2) _ rfl
      refine ⟨by rw [hf4]; rfl, fun f hf => by rw [hf4] at hf; cases hf; rfl, fun f hf x hx => ?_⟩
      rw [hf4] at hf
      cases hf
      have := w4 x hx
      rw [w3] at this
      simpa using (List.mem_filter.1 this).2
/-- Over a disk that is down a flush does nothing. -/
theorem save_down (hd : D.down = true) (t : ByteArray) (b : Nat) (nm : ByteArray) : saveD D nm t b = (8, D) := by
  have hb : ∀ l, D.bars l = 8 := fun l => by unfold DiskS.bars; rw [if_pos hd]
  have hdel : ∀ l, D.delete l = (8, D) := fun l => by unfold DiskS.delete; rw [hb, if_pos (by decide)]
  unfold saveD clearD
  by_cases hx : D.has (nm ++ freshN) = true
  · rw [if_pos hx, hdel]
    simp
  · rw [if_neg hx]
    simp only [ne_eq, not_true_eq_false, if_false]
    have hl : laidD D (nm ++ freshN) (sealB t) b = (8, D) := by
      unfold laidD DiskS.create
      rw [if_pos hd]
      rfl
    rw [hl]
    unfold endD
    simp
end
end Go.Proofs.YtafdfmdcnniccaaGreat.ofs

/- Layer 14, plain: the law's own list tells what the offsets tell. -/
namespace Go.Proofs.YtafdfmdcnniccaaGreat.ofs
open Go.ChangeShapes Go.WideShapes Go.ChangeAt Go.RowKit
open Go.Proofs.YtafdfmdcnniccaaGreat.dk Go.Proofs.YtafdfmdcnniccaaGreat.tp

/-- A list in whatever order tells what a rising one tells. -/
structure Alike (N l : List OffS) : Prop where
  len : N.length = l.length
  find : ∀ y, findO N y = findO l y
  unlike : Unlike N
theorem rising_unlike {l : List OffS} (h : Rising l) : Unlike l := h.imp fun {a b} hab => by
  cases hs : sameK a b with
  | false => rfl
  | true => rw [ord_zero.2 hs] at hab; omega
theorem Alike.self {l : List OffS} (h : Rising l) : Alike l l := ⟨rfl, fun _ => rfl, rising_unlike h⟩
theorem find_self {l : List OffS} (h : Unlike l) {x : OffS} (hx : x ∈ l) : findO l x = some x := by
  cases hq : findO l x with
  | none =>
    have := List.find?_eq_none.1 hq x hx
    rw [sameK_self] at this
    exact absurd rfl this
  | some y =>
    have h1 : sameK x y = true := List.find?_some hq
    rw [unlike_one h hx (List.mem_of_find?_eq_some hq) h1]
theorem Alike.same {N l : List OffS} (h : Alike N l) (hr : Rising l) : sameO l N = true := by
  unfold sameO
  rw [h.len, decide_eq_true rfl, Bool.true_and, List.all_eq_true]
  intro x hx
  unfold tellsO
  rw [h.find x, find_self (rising_unlike hr) hx]
  simp
theorem Alike.get {N l : List OffS} (h : Alike N l) (x : OffS) : getO l x = match findO N x with
    | some y => y.at_
    | none => 0 := by unfold getO; rw [h.find x]; cases findO l x <;> rfl
/-- What the law says of a Set. -/
theorem Alike.code {N l : List OffS} (h : Alike N l) (hg : GoodL l) (x : OffS) : setC l x = if rightO x = 0 ∧ findO N x = none ∧ N.length = 64 then 6 else rightO x := by
  have hf := h.find x
  have h1 := hg.few
  have h2 := h.len
  unfold setC
  by_cases hr : rightO x = 0
  · rw [if_neg (by simp [hr])]
    cases hq : findO l x with
    | none =>
      rw [hq] at hf
      rw [if_neg (by simp)]
      by_cases h64 : 64 ≤ l.length
      · rw [if_pos h64, if_pos ⟨hr, hf, by omega⟩]
      · rw [if_neg h64, if_neg (fun h => h64 (by omega)), hr]
    | some y =>
      rw [hq] at hf
      rw [if_pos (by simp), if_neg (fun h => by rw [hf] at h; exact absurd h.2.1 (by simp)), hr]
  · rw [if_pos hr, if_neg (fun h => hr h.1)]
theorem setL_find2 {l : List OffS} (h : GoodL l) {x : OffS} (hc : setC l x = 0) (y : OffS) : findO (setL l x) y = if sameK y x = true then some x else findO l y := by
  unfold setL
  rw [if_pos hc, set_find x y h.rising]
theorem Alike.put {N l : List OffS} (h : Alike N l) (hg : GoodL l) {x : OffS} (hc : setC l x = 0) (hn : findO N x = none) : Alike (N ++ [x]) (setL l x) := by
  have hnl : findO l x = none := by rw [← h.find x]; exact hn
  refine ⟨?_, fun y => ?_, ?_⟩
  · unfold setL
    rw [if_pos hc, set_length l x hg.rising, if_pos hnl, List.length_append, List.length_singleton, h.len]
  · rw [setL_find2 hg hc y, ← h.find y]
    unfold findO
    rw [List.find?_append]
    cases hq : N.find? (fun z => sameK y z) with
    | none =>
      simp only [Option.none_or, List.find?_cons, List.find?_nil]
      cases sameK y x <;> rfl
    | some z =>
      by_cases hyx : sameK y x = true
      · have hz : sameK y z = true := List.find?_some (p := fun z => sameK y z) hq
        have hm : z ∈ N := List.mem_of_find?_eq_some hq
        obtain ⟨a1, a2, a3⟩ := sameK_iff.1 hz
        obtain ⟨b1, b2, b3⟩ := sameK_iff.1 hyx
        have hxz : sameK x z = true := sameK_iff.2 ⟨a1.trans b1.symm, a2.trans b2.symm, a3.trans b3.symm⟩
        exact absurd hxz (List.find?_eq_none.1 hn z hm)
      · simp [hyx]
  · refine List.pairwise_append.2 ⟨h.unlike, List.pairwise_singleton _ _, fun a ha b hb => ?_⟩
    rw [List.mem_singleton] at hb
    subst hb
    cases hs : sameK a b with
    | false => rfl
    | true => exact absurd (sameK_comm hs) (List.find?_eq_none.1 hn a ha)
theorem key_of {x y z : OffS} (h1 : sameK x y = true) (h2 : sameK x z = true) : sameK y z = true := by
  obtain ⟨a1, a2, a3⟩ := sameK_iff.1 h1
  obtain ⟨b1, b2, b3⟩ := sameK_iff.1 h2
  exact sameK_iff.2 ⟨b1.trans a1.symm, b2.trans a2.symm, b3.trans a3.symm⟩
theorem key_same {x y : OffS} (h : sameK x y = true) (z : OffS) : sameK z x = sameK z y ∧ sameK x z = sameK y z := by
  obtain ⟨a1, a2, a3⟩ := sameK_iff.1 h
  unfold sameK
  rw [a1, a2, a3]
  exact ⟨rfl, rfl⟩
theorem Alike.turn {N l : List OffS} (h : Alike N l) (hg : GoodL l) {x : OffS} (hc : setC l x = 0) {k : Nat} (hk : k < N.length) (hf : findO N x = some N[k]) : Alike (N.take k ++ x :: N.drop (k + 1)) (setL l x) := by
  have hs : sameK x N[k] = true := List.find?_some (p := fun z => sameK x z) hf
  have hnl : findO l x ≠ none := by rw [← h.find x, hf]; simp
  have hN : N = N.take k ++ N[k] :: N.drop (k + 1) := by rw [← List.drop_eq_getElem_cons hk, List.take_append_drop]
  have hu := h.unlike
  unfold Unlike at hu
  rw [hN] at hu
  obtain ⟨u1, u2, u3⟩ := List.pairwise_append.1 hu
  obtain ⟨v1, v2⟩ := List.pairwise_cons.1 u2
  refine ⟨?_, fun y => ?_, ?_⟩
  · unfold setL
    rw [if_pos hc, set_length l x hg.rising, if_neg hnl, List.length_append, List.length_cons, List.length_take, List.length_drop, ← h.len]
    omega
  · rw [setL_find2 hg hc y, ← h.find y]
    have hy := (key_same hs y).1
    have hNf : findO N y = (N.take k ++ N[k] :: N.drop (k + 1)).find? (fun z => sameK y z) := by
      unfold findO
      exact congrArg (List.find? _) hN
    rw [hNf]
    unfold findO
    rw [List.find?_append, List.find?_append, List.find?_cons, List.find?_cons, ← hy]
    by_cases hyx : sameK y x = true
    · rw [if_pos hyx]
      have hnone : (N.take k).find? (fun z => sameK y z) = none := List.find?_eq_none.2 fun z hz hyz => by
        have h1 := u3 z hz N[k] (List.mem_cons_self ..)
        have h2 : sameK z N[k] = true := key_of hyz (hy ▸ hyx)
        rw [h1] at h2
        cases h2
      rw [hnone, hyx]
      rfl
    · rw [if_neg hyx, Bool.eq_false_iff.2 hyx]
  · refine List.pairwise_append.2 ⟨u1, List.pairwise_cons.2 ⟨fun b hb => ?_, v2⟩, fun a ha b hb => ?_⟩
    · rw [(key_same hs b).2]
      exact v1 b hb
    · rcases List.mem_cons.1 hb with rfl | hb
      · rw [(key_same hs a).1]
        exact u3 a ha _ (List.mem_cons_self ..)
      · exact u3 a ha b (List.mem_cons_of_mem _ hb)
/-- What lasts: nothing was flushed, or these. -/
def FileO (D : DiskS) (l : List OffS) : Prop := (Still D groupsN none ∧ l = []) ∨ Still D groupsN (some (sealB (putB l)))
theorem FileO.open {D : DiskS} {l : List OffS} (h : FileO D l) (hg : GoodL l) (hd : D.down = false) : openO D = (0, some l) ∧ (D.all groupsN).1.size ≤ 1000000 ∧ (loadD D groupsN).1.size ≤ 1000000 := by
  rcases h with ⟨h, rfl⟩ | h
  · have hall : D.all groupsN = (⟨#[]⟩, 9) := h.all hd
    have hload : loadD D groupsN = (⟨#[]⟩, false, 0) := by
      unfold loadD
      rw [hall]
      rfl
    refine ⟨?_, by rw [hall]; exact Nat.zero_le _, by rw [hload]; exact Nat.zero_le _⟩
    unfold openO
    rw [hload]
    rfl
  · exact Held.open hg h hd
theorem FileO.crashed {D : DiskS} {l : List OffS} (h : FileO D l) (keep : List Bool) (lack : Int) : FileO (D.crashed keep lack) l :=
  h.elim (fun h => .inl ⟨h.1.crashed keep lack, h.2⟩) (fun h => .inr (h.crashed keep lack))
theorem FileO.fuse {D : DiskS} {l : List OffS} (h : FileO D l) (k : Int) : FileO (D.fuse k) l :=
  h.elim (fun h => .inl ⟨h.1.fuse k, h.2⟩) (fun h => .inr (h.fuse k))
theorem FileO.new (c : Int) : FileO (dk.new c) [] := .inl ⟨⟨rfl, (fun f hf => by cases hf), (fun f hf => by cases hf)⟩, rfl⟩
/-- A flush, whatever stands. -/
theorem flush_full {D : DiskS} {l m : List OffS} (hF : Fit D) (hform : dk.Form D) (hm : GoodL m) (hS : FileO D l) (b : Nat) (hblk : ∀ f ∈ D.files, f.blk ≠ b) :
    ∃ c D', saveD D groupsN (putB m) b = (c, D') ∧ Fit D' ∧ ((c = 0 ∧ D.down = false ∧ D'.down = false ∧ FileO D' m) ∨ (c = 8 ∧ D'.down = true ∧ FileO D' l)) := by
  cases hd : D.down with
  | true => exact ⟨8, D, save_down hd _ _ _, hF, .inr ⟨rfl, hd, hS⟩⟩
  | false =>
    have hz := putB_le hm
    rcases hS with ⟨hS, rfl⟩ | hS
    · obtain ⟨c, D', h1, h2, h3⟩ := save_full hd hF hform (putB m) hz b hS hblk
      refine ⟨c, D', h1, h2, ?_⟩
      rcases h3 with ⟨a, b', c'⟩ | ⟨a, b', c'⟩
      · exact .inl ⟨a, rfl, b', .inr c'⟩
      · exact .inr ⟨a, b', .inl ⟨c', rfl⟩⟩
    · obtain ⟨c, D', h1, h2, h3⟩ := save_full hd hF hform (putB m) hz b hS hblk
      refine ⟨c, D', h1, h2, ?_⟩
      rcases h3 with ⟨a, b', c'⟩ | ⟨a, b', c'⟩
      · exact .inl ⟨a, rfl, b', .inr c'⟩
      · exact .inr ⟨a, b', .inr c'⟩
end Go.Proofs.YtafdfmdcnniccaaGreat.ofs

/- Layer 14's laws: rising. -/
namespace Go.Proofs.YtafdfmdcnniccaaGreat.ofs
open Go.ChangeShapes Go.WideShapes Go.ChangeAt Go.RowKit
open Go.Proofs.YtafdfmdcnniccaaGreat.dk Go.Proofs.YtafdfmdcnniccaaGreat.nm

theorem set4_heap {w : World} {g : Nat} {a b c d : Value} {T : TypeId} (h : w.heap[g]? = some (.cells #[a, b, c, d] T (0, 0))) (x : OffS) : (set4 w g 0 x).heap[g]? = some (.cells (offA x) T (0, 0)) :=
  heap_set (heap_set (heap_set (heap_set h 0 (.string x.group)) 1 (.string x.topic)) 2 (.int .i64 x.queue)) 3 (.int .i64 x.at_)
theorem set4_other {w : World} {g k : Nat} (h : g ≠ k) (o : Nat) (x : OffS) : (set4 w k o x).heap[g]? = w.heap[g]? :=
  (heap_set_other h _ _).trans ((heap_set_other h _ _).trans ((heap_set_other h _ _).trans (heap_set_other h _ _)))
set_option maxRecDepth 100000 in
set_option maxHeartbeats 4000000 in
theorem rising_any (v : Value) (l : List OffS) (w : World) (h : OffsAt w v l) (hl : l.length ≤ 1000000) (hR : Rising l) :
    Calls Tryz.prog 19 #[v] w fun e w' => e = .returned (.bool true) ∧ Calm w w' := by
  obtain ⟨a, cap, rfl, _, hc⟩ := h
  have Hc := box hc
  have HR := box hR
  clear hc hR
  go_enter Tryz.func19, Tryz.ntmps19
  go_wp2_with fail
  go_loopw [3] (fun iv wr => ∃ k : Nat, 1 ≤ k ∧ (k ≤ l.length ∨ k = 1) ∧ iv = .int .i64 k ∧ Calm w wr) (fun iv _ => l.length - (intOf iv).toNat)
  case atStart => exact ⟨1, Nat.le_refl _, .inr rfl, rfl, .refl _⟩
  case round =>
    obtain ⟨k, hk1, hk, rfl, hcr⟩ := hrel
    have HCr := box hcr
    clear hcr
    obtain ⟨wo, hwo⟩ : ∃ wo : World, wo = wr := ⟨_, rfl⟩
    subst hwo
    by_cases hlt : k < l.length
    · obtain ⟨m, rfl⟩ : ∃ m, k = m + 1 := ⟨k - 1, by omega⟩
      obtain ⟨b, off, rfl, hb, d0, d1, d2, d3⟩ := Hc.out m (by omega)
      obtain ⟨b', off', he, _, e0, e1, e2, e3⟩ := Hc.out (m + 1) hlt
      cases he
      have hord := List.pairwise_iff_getElem.1 HR.out m (m + 1) (by omega) hlt (by omega)
      have c0 := (HCr.out.cell (p := ⟨b, off + m * 4, none⟩) hb).trans d0
      have c1 := (HCr.out.cell (p := ⟨b, off + m * 4 + 1, none⟩) hb).trans d1
      have c2 := (HCr.out.cell (p := ⟨b, off + m * 4 + 2, none⟩) hb).trans d2
      have c3 := (HCr.out.cell (p := ⟨b, off + m * 4 + 3, none⟩) hb).trans d3
      have f0 := (HCr.out.cell (p := ⟨b, off + (m + 1) * 4, none⟩) hb).trans e0
      have f1 := (HCr.out.cell (p := ⟨b, off + (m + 1) * 4 + 1, none⟩) hb).trans e1
      have f2 := (HCr.out.cell (p := ⟨b, off + (m + 1) * 4 + 2, none⟩) hb).trans e2
      have f3 := (HCr.out.cell (p := ⟨b, off + (m + 1) * 4 + 3, none⟩) hb).trans e3
      have hb' := Nat.lt_of_lt_of_le hb HCr.out.size
      obtain ⟨⟨xg, xt, xq, xa⟩, hx⟩ : ∃ x, l[m] = x := ⟨_, rfl⟩
      obtain ⟨⟨yg, yt, yq, ya⟩, hy⟩ : ∃ y, l[m + 1] = y := ⟨_, rfl⟩
      simp only [hx, hy] at c0 c1 c2 c3 f0 f1 f2 f3 hord
      have hm : ((m + 1 : Nat) : Int) - 1 = (m : Int) := by omega
      have hmlt : m < l.length := by omega
      clear d0 d1 d2 d3 e0 e1 e2 e3 hx hy
      rw [ord_lt] at hord
      simp only at hord
      go_upto_region 4 with fail
      have hwr : IntKind.i64.wrap ((m + 1 : Nat) - 1 : Int) = (m : Int) := by rw [IntKind.wrap_i64]; omega
      have hwm : IntKind.i64.wrap (m : Int) = (m : Int) := by rw [IntKind.wrap_i64]; omega
      have hm0 : (0 : Int) ≤ (m : Int) + 1 := by omega
      have hwr2 : IntKind.i64.wrap ((m : Int) + 1 - 1) = (m : Int) := by rw [IntKind.wrap_i64]; omega
      have hS := box (fun W (hc : Calm wo W) => (show Box (W.cell? ⟨b, off + m * 4, none⟩ = some (.string xg) ∧ W.cell? ⟨b, off + m * 4 + 1, none⟩ = some (.string xt) ∧ W.cell? ⟨b, off + m * 4 + 2, none⟩ = some (.int .i64 xq) ∧ W.cell? ⟨b, off + m * 4 + 3, none⟩ = some (.int .i64 xa) ∧ W.cell? ⟨b, off + (m + 1) * 4, none⟩ = some (.string yg) ∧ W.cell? ⟨b, off + (m + 1) * 4 + 1, none⟩ = some (.string yt) ∧ W.cell? ⟨b, off + (m + 1) * 4 + 2, none⟩ = some (.int .i64 yq) ∧ W.cell? ⟨b, off + (m + 1) * 4 + 3, none⟩ = some (.int .i64 ya)) ∧ Box True from ⟨box ⟨(hc.cell (p := ⟨b, off + m * 4, none⟩) hb').trans c0, (hc.cell (p := ⟨b, off + m * 4 + 1, none⟩) hb').trans c1, (hc.cell (p := ⟨b, off + m * 4 + 2, none⟩) hb').trans c2, (hc.cell (p := ⟨b, off + m * 4 + 3, none⟩) hb').trans c3, (hc.cell (p := ⟨b, off + (m + 1) * 4, none⟩) hb').trans f0, (hc.cell (p := ⟨b, off + (m + 1) * 4 + 1, none⟩) hb').trans f1, (hc.cell (p := ⟨b, off + (m + 1) * 4 + 2, none⟩) hb').trans f2, (hc.cell (p := ⟨b, off + (m + 1) * 4 + 3, none⟩) hb').trans f3⟩, box trivial⟩))
      refine wp_region_held_drew (S := fun W => Box (W.cell? ⟨b, off + m * 4, none⟩ = some (.string xg) ∧ W.cell? ⟨b, off + m * 4 + 1, none⟩ = some (.string xt) ∧ W.cell? ⟨b, off + m * 4 + 2, none⟩ = some (.int .i64 xq) ∧ W.cell? ⟨b, off + m * 4 + 3, none⟩ = some (.int .i64 xa) ∧ W.cell? ⟨b, off + (m + 1) * 4, none⟩ = some (.string yg) ∧ W.cell? ⟨b, off + (m + 1) * 4 + 1, none⟩ = some (.string yt) ∧ W.cell? ⟨b, off + (m + 1) * 4 + 2, none⟩ = some (.int .i64 yq) ∧ W.cell? ⟨b, off + (m + 1) * 4 + 3, none⟩ = some (.int .i64 ya)) ∧ Box True) (by kernel_rfl) (hS.out _ (Calm.refl wo).drew) (fun hHeld => ?_)
      ((refine' wpAnyH_take (i := 0) (v := _) rfl (by kernel_rfl) (by kernel_rfl) (by kernel_rfl) (fun _ _ _ h => h) (Or.inl ⟨by rfl, ?hy713⟩) (by assumption) ?rest713; (case hy713 => (intro w hSw; (try dsimp only at hSw); go_simp <;> with_reducible rfl)); simp only [List.getElem_toArray, List.getElem_cons_succ, List.getElem_cons_zero, Act.put, List.setIfInBounds_toArray, List.set_cons_zero, List.set_cons_succ]); (refine' wpAnyH_take (i := 1) (v := _) rfl (by kernel_rfl) (by kernel_rfl) (by kernel_rfl) (fun _ _ _ h => h) (Or.inl ⟨by rfl, ?hy714⟩) (by assumption) ?rest714; (case hy714 => (intro w hSw; (try dsimp only at hSw); go_simp <;> with_reducible rfl)); simp only [List.getElem_toArray, List.getElem_cons_succ, List.getElem_cons_zero, Act.put, List.setIfInBounds_toArray, List.set_cons_zero, List.set_cons_succ]); (refine' wpAnyH_take (i := 2) (v := _) rfl (by kernel_rfl) (by kernel_rfl) (by kernel_rfl) (fun _ _ _ h => h) (Or.inl ⟨by rfl, ?hy715⟩) (by assumption) ?rest715; (case hy715 => (intro w hSw; (try dsimp only at hSw); go_simp <;> with_reducible rfl)); simp only [List.getElem_toArray, List.getElem_cons_succ, List.getElem_cons_zero, Act.put, List.setIfInBounds_toArray, List.set_cons_zero, List.set_cons_succ]); (refine' wpAnyH_take (i := 3) (v := _) rfl (by kernel_rfl) (by kernel_rfl) (by kernel_rfl) (fun _ _ _ h => h) (Or.inl ⟨by rfl, ?hy716⟩) (by assumption) ?rest716; (case hy716 => (intro w hSw; (try dsimp only at hSw); go_simp <;> with_reducible rfl)); simp only [List.getElem_toArray, List.getElem_cons_succ, List.getElem_cons_zero, Act.put, List.setIfInBounds_toArray, List.set_cons_zero, List.set_cons_succ]))
      ((refine' wpAnyH_take (i := 4) (v := _) rfl (by kernel_rfl) (by kernel_rfl) (by kernel_rfl) (fun _ _ _ h => h) (Or.inl ⟨by rfl, ?hy717⟩) (by assumption) ?rest717; (case hy717 => (intro w hSw; obtain ⟨⟨hSw1⟩, ⟨hSw2⟩⟩ := hSw; go_simp <;> with_reducible rfl)); simp only [List.getElem_toArray, List.getElem_cons_succ, List.getElem_cons_zero, Act.put, List.setIfInBounds_toArray, List.set_cons_zero, List.set_cons_succ]))
      ((refine' wpAnyH_take (i := 5) (v := _) rfl (by kernel_rfl) (by kernel_rfl) (by kernel_rfl) (fun _ _ _ h => h) (Or.inl ⟨by rfl, ?hy718⟩) (by assumption) ?rest718; (case hy718 => (intro w hSw; (try dsimp only at hSw); go_simp <;> with_reducible rfl)); simp only [List.getElem_toArray, List.getElem_cons_succ, List.getElem_cons_zero, Act.put, List.setIfInBounds_toArray, List.set_cons_zero, List.set_cons_succ]); (refine' wpAnyH_take (i := 6) (v := _) rfl (by kernel_rfl) (by kernel_rfl) (by kernel_rfl) (fun _ _ _ h => h) (Or.inl ⟨by rfl, ?hy719⟩) (by assumption) ?rest719; (case hy719 => (intro w hSw; (try dsimp only at hSw); go_simp <;> with_reducible rfl)); simp only [List.getElem_toArray, List.getElem_cons_succ, List.getElem_cons_zero, Act.put, List.setIfInBounds_toArray, List.set_cons_zero, List.set_cons_succ]); (refine' wpAnyH_take (i := 7) (v := _) rfl (by kernel_rfl) (by kernel_rfl) (by kernel_rfl) (fun _ _ _ h => h) (Or.inl ⟨by rfl, ?hy720⟩) (by assumption) ?rest720; (case hy720 => (intro w hSw; (try dsimp only at hSw); go_simp <;> with_reducible rfl)); simp only [List.getElem_toArray, List.getElem_cons_succ, List.getElem_cons_zero, Act.put, List.setIfInBounds_toArray, List.set_cons_zero, List.set_cons_succ]))
      ((refine' wpAnyH_take (i := 8) (v := _) rfl (by kernel_rfl) (by kernel_rfl) (by kernel_rfl) (fun _ _ _ h => h) (Or.inl ⟨by rfl, ?hy721⟩) (by assumption) ?rest721; (case hy721 => (intro w hSw; obtain ⟨⟨hSw1⟩, ⟨hSw2⟩⟩ := hSw; go_simp <;> with_reducible rfl)); simp only [List.getElem_toArray, List.getElem_cons_succ, List.getElem_cons_zero, Act.put, List.setIfInBounds_toArray, List.set_cons_zero, List.set_cons_succ]))
      refine wpAnyH_ready (rs := [9, 10]) (by kernel_rfl) (by simp) ?_
      refine AllReadyH.cons rfl (fun K hK => ?g9) (AllReadyH.cons rfl (fun K hK => ?g10) AllReadyH.nil)
      case' g9 =>
        rw [if_pos (by rfl)]
        go_simp
        refine hK.out _ _ (hS.out _ ((Calm.refl wo).alloc _).drew) (fun hHeld => ?_)
        clear hK K
        try simp only [List.getElem_toArray, List.getElem_cons_succ, List.getElem_cons_zero, Act.put, List.setIfInBounds_toArray, List.set_cons_zero, List.set_cons_succ]
        refine wpAnyH_ready (rs := [10]) (by kernel_rfl) (by simp) ?_
        refine AllReadyH.cons rfl (fun K hK => ?_) AllReadyH.nil
        rw [if_pos (by rfl)]
        go_simp
        refine hK.out _ _ (hS.out _ (((Calm.refl wo).alloc _).alloc _).drew) (fun hHeld => ?_)
        clear hK K
        try simp only [List.getElem_toArray, List.getElem_cons_succ, List.getElem_cons_zero, Act.put, List.setIfInBounds_toArray, List.set_cons_zero, List.set_cons_succ]
        obtain ⟨w2, hw2⟩ : ∃ w2, ((wo.alloc (.cells #[.string ⟨#[]⟩, .string ⟨#[]⟩, .int .i64 0, .int .i64 0] 31)).alloc (.cells #[.string ⟨#[]⟩, .string ⟨#[]⟩, .int .i64 0, .int .i64 0] 31)).drew = w2 := ⟨_, rfl⟩
        have hb0 : w2.heap[wo.heap.size]? = some (.cells #[.string ⟨#[]⟩, .string ⟨#[]⟩, .int .i64 0, .int .i64 0] 31 (0, 0)) := by rw [← hw2]; exact heap_calm ((Calm.refl (wo.alloc (.cells #[.string ⟨#[]⟩, .string ⟨#[]⟩, .int .i64 0, .int .i64 0] 31))).alloc (.cells #[.string ⟨#[]⟩, .string ⟨#[]⟩, .int .i64 0, .int .i64 0] 31)).drew (heap_new wo _)
        have hb1 : w2.heap[wo.heap.size + 1]? = some (.cells #[.string ⟨#[]⟩, .string ⟨#[]⟩, .int .i64 0, .int .i64 0] 31 (0, 0)) := by
          have := heap_new (wo.alloc (.cells #[.string ⟨#[]⟩, .string ⟨#[]⟩, .int .i64 0, .int .i64 0] 31)) (.cells #[.string ⟨#[]⟩, .string ⟨#[]⟩, .int .i64 0, .int .i64 0] 31)
          rw [World.size_alloc] at this
          rw [← hw2]; exact this
        have hC2 : Calm wo w2 := by rw [← hw2]; exact (((Calm.refl wo).alloc (.cells #[.string ⟨#[]⟩, .string ⟨#[]⟩, .int .i64 0, .int .i64 0] 31)).alloc (.cells #[.string ⟨#[]⟩, .string ⟨#[]⟩, .int .i64 0, .int .i64 0] 31)).drew
        rw [hw2] at hHeld ⊢
        obtain ⟨bx, hbx⟩ : ∃ bx, wo.heap.size = bx := ⟨_, rfl⟩
        obtain ⟨by_, hby⟩ : ∃ by_, wo.heap.size + 1 = by_ := ⟨_, rfl⟩
        have hne : by_ ≠ bx := by omega
        have hbxg : wo.heap.size ≤ bx := by omega
        have hbyg : wo.heap.size ≤ by_ := by omega
        rw [hbx] at hb0
        rw [hby] at hb1
        rw [hby, hbx]
        clear hw2 hbx hby
        have HX2 := hb0
        have HY2 := hb1
        clear hb0 hb1
      case' g10 =>
        rw [if_pos (by rfl)]
        go_simp
        refine hK.out _ _ (hS.out _ ((Calm.refl wo).alloc _).drew) (fun hHeld => ?_)
        clear hK K
        try simp only [List.getElem_toArray, List.getElem_cons_succ, List.getElem_cons_zero, Act.put, List.setIfInBounds_toArray, List.set_cons_zero, List.set_cons_succ]
        refine wpAnyH_ready (rs := [9]) (by kernel_rfl) (by simp) ?_
        refine AllReadyH.cons rfl (fun K hK => ?_) AllReadyH.nil
        rw [if_pos (by rfl)]
        go_simp
        refine hK.out _ _ (hS.out _ (((Calm.refl wo).alloc _).alloc _).drew) (fun hHeld => ?_)
        clear hK K
        try simp only [List.getElem_toArray, List.getElem_cons_succ, List.getElem_cons_zero, Act.put, List.setIfInBounds_toArray, List.set_cons_zero, List.set_cons_succ]
        obtain ⟨w2, hw2⟩ : ∃ w2, ((wo.alloc (.cells #[.string ⟨#[]⟩, .string ⟨#[]⟩, .int .i64 0, .int .i64 0] 31)).alloc (.cells #[.string ⟨#[]⟩, .string ⟨#[]⟩, .int .i64 0, .int .i64 0] 31)).drew = w2 := ⟨_, rfl⟩
        have hb0 : w2.heap[wo.heap.size]? = some (.cells #[.string ⟨#[]⟩, .string ⟨#[]⟩, .int .i64 0, .int .i64 0] 31 (0, 0)) := by rw [← hw2]; exact heap_calm ((Calm.refl (wo.alloc (.cells #[.string ⟨#[]⟩, .string ⟨#[]⟩, .int .i64 0, .int .i64 0] 31))).alloc (.cells #[.string ⟨#[]⟩, .string ⟨#[]⟩, .int .i64 0, .int .i64 0] 31)).drew (heap_new wo _)
        have hb1 : w2.heap[wo.heap.size + 1]? = some (.cells #[.string ⟨#[]⟩, .string ⟨#[]⟩, .int .i64 0, .int .i64 0] 31 (0, 0)) := by
          have := heap_new (wo.alloc (.cells #[.string ⟨#[]⟩, .string ⟨#[]⟩, .int .i64 0, .int .i64 0] 31)) (.cells #[.string ⟨#[]⟩, .string ⟨#[]⟩, .int .i64 0, .int .i64 0] 31)
          rw [World.size_alloc] at this
          rw [← hw2]; exact this
        have hC2 : Calm wo w2 := by rw [← hw2]; exact (((Calm.refl wo).alloc (.cells #[.string ⟨#[]⟩, .string ⟨#[]⟩, .int .i64 0, .int .i64 0] 31)).alloc (.cells #[.string ⟨#[]⟩, .string ⟨#[]⟩, .int .i64 0, .int .i64 0] 31)).drew
        rw [hw2] at hHeld ⊢
        obtain ⟨bx, hbx⟩ : ∃ bx, wo.heap.size + 1 = bx := ⟨_, rfl⟩
        obtain ⟨by_, hby⟩ : ∃ by_, wo.heap.size = by_ := ⟨_, rfl⟩
        have hne : by_ ≠ bx := by omega
        have hbxg : wo.heap.size ≤ bx := by omega
        have hbyg : wo.heap.size ≤ by_ := by omega
        rw [hby] at hb0
        rw [hbx] at hb1
        rw [hbx, hby]
        clear hw2 hbx hby
        have HX2 := hb1
        have HY2 := hb0
        clear hb0 hb1
      all_goals
        have p0 := cell_of HX2 0
        have p1 := cell_of HX2 1
        have p2 := cell_of HX2 2
        have p3 := cell_of HX2 3
        have pf0 := free_of HX2 0
        have pf1 := free_of HX2 1
        have pf2 := free_of HX2 2
        have pf3 := free_of HX2 3
        have plt := heap_lt HX2
        refine wpAnyH_ready (rs := [11]) (by kernel_rfl) (by simp) ?_
        refine AllReadyH.cons rfl (fun K hK => ?_) AllReadyH.nil
        rw [if_pos (by rfl)]
        go_simp
        have hX3 := set4_heap HX2 ⟨xg, xt, xq, xa⟩
        have hY3 := (set4_other hne 0 ⟨xg, xt, xq, xa⟩).trans HY2
        have hC3 : Calm wo (set4 w2 bx 0 ⟨xg, xt, xq, xa⟩) := (set4_keeps (Keeps.of_calm (F := fun _ => False) hC2) (.inr hbxg) 0 ⟨xg, xt, xq, xa⟩).below (Nat.le_refl _) (fun _ h => h.elim)
        refine hK.out _ _ (hS.out _ hC3) (fun hHeld => ?_)
        clear hK K
        try simp only [List.getElem_toArray, List.getElem_cons_succ, List.getElem_cons_zero, Act.put, List.setIfInBounds_toArray, List.set_cons_zero, List.set_cons_succ]
        obtain ⟨w3, hw3⟩ : ∃ w3, set4 w2 bx 0 ⟨xg, xt, xq, xa⟩ = w3 := ⟨_, rfl⟩
        have hw3' : (((w2.setCell ⟨bx, 0, none⟩ (.string xg)).setCell ⟨bx, 1, none⟩ (.string xt)).setCell ⟨bx, 2, none⟩ (.int .i64 xq)).setCell ⟨bx, 3, none⟩ (.int .i64 xa) = w3 := hw3
        rw [hw3] at hX3 hY3 hC3
        rw [hw3'] at hHeld ⊢
        clear hw3 hw3' p0 p1 p2 p3 pf0 pf1 pf2 pf3 plt HX2 HY2
        have p0 := cell_of hY3 0
        have p1 := cell_of hY3 1
        have p2 := cell_of hY3 2
        have p3 := cell_of hY3 3
        have pf0 := free_of hY3 0
        have pf1 := free_of hY3 1
        have pf2 := free_of hY3 2
        have pf3 := free_of hY3 3
        have plt := heap_lt hY3
        refine wpAnyH_ready (rs := [12]) (by kernel_rfl) (by simp) ?_
        refine AllReadyH.cons rfl (fun K hK => ?_) AllReadyH.nil
        rw [if_pos (by rfl)]
        go_simp
        have hY4 := set4_heap hY3 ⟨yg, yt, yq, ya⟩
        have hX4 := (set4_other (fun e => hne e.symm) 0 ⟨yg, yt, yq, ya⟩).trans hX3
        have hC4 : Calm wo (set4 w3 by_ 0 ⟨yg, yt, yq, ya⟩) := (set4_keeps (Keeps.of_calm (F := fun _ => False) hC3) (.inr hbyg) 0 ⟨yg, yt, yq, ya⟩).below (Nat.le_refl _) (fun _ h => h.elim)
        refine hK.out _ _ (hS.out _ hC4) (fun hHeld => ?_)
        clear hK K
        try simp only [List.getElem_toArray, List.getElem_cons_succ, List.getElem_cons_zero, Act.put, List.setIfInBounds_toArray, List.set_cons_zero, List.set_cons_succ]
        obtain ⟨w4, hw4⟩ : ∃ w4, set4 w3 by_ 0 ⟨yg, yt, yq, ya⟩ = w4 := ⟨_, rfl⟩
        have hw4' : (((w3.setCell ⟨by_, 0, none⟩ (.string yg)).setCell ⟨by_, 1, none⟩ (.string yt)).setCell ⟨by_, 2, none⟩ (.int .i64 yq)).setCell ⟨by_, 3, none⟩ (.int .i64 ya) = w4 := hw4
        rw [hw4] at hX4 hY4 hC4
        rw [hw4'] at hHeld ⊢
        clear hw4 hw4' p0 p1 p2 p3 pf0 pf1 pf2 pf3 plt hX3 hY3 hC3 hHeld
        refine wpAnyH_done (by kernel_rfl) ?_ _
        unfold offA at hX4 hY4
        simp only at hX4 hY4
        have x0 := cell_of hX4 0
        have y0 := cell_of hY4 0
        have x1 := cell_of hX4 1
        have y1 := cell_of hY4 1
        have x2 := cell_of hX4 2
        have y2 := cell_of hY4 2
        have xlt := heap_lt hX4
        have ylt := heap_lt hY4
        have HC4 := box hC4
        clear hX4 hY4 hC4 hS c0 c1 c2 c3 f0 f1 f2 f3
        rcases hord with hg | ⟨hg, ht | ⟨ht, hq⟩⟩
        · have n1 : Op.bytesLess xg.toList yg.toList = true := cmpB_lt.1 hg
          have n2 : (xg.toList == yg.toList) = false := bytes_ne (fun e => by rw [cmpB_zero.2 e] at hg; omega)
          clear hg
          go_wp2_with fail
          go_roundw
          case rel => exact ⟨m + 2, by omega, .inl (by omega), by go_num, HCr.out.trans HC4.out⟩
          case measure => simp [intOf]; omega
        · have n1 : Op.bytesLess xg.toList yg.toList = false := by rw [hg]; exact less_irrefl _
          have n2 : (xg.toList == yg.toList) = true := by rw [hg]; exact beq_self_eq_true _
          have n3 : Op.bytesLess xt.toList yt.toList = true := cmpB_lt.1 ht
          have n4 : (xt.toList == yt.toList) = false := bytes_ne (fun e => by rw [cmpB_zero.2 e] at ht; omega)
          clear hg ht
          go_wp2_with fail
          go_roundw
          case rel => exact ⟨m + 2, by omega, .inl (by omega), by go_num, HCr.out.trans HC4.out⟩
          case measure => simp [intOf]; omega
        · have n1 : Op.bytesLess xg.toList yg.toList = false := by rw [hg]; exact less_irrefl _
          have n2 : (xg.toList == yg.toList) = true := by rw [hg]; exact beq_self_eq_true _
          have n3 : Op.bytesLess xt.toList yt.toList = false := by rw [ht]; exact less_irrefl _
          have n4 : (xt.toList == yt.toList) = true := by rw [ht]; exact beq_self_eq_true _
          clear hg ht
          go_wp2_with fail
          go_roundw
          case rel => exact ⟨m + 2, by omega, .inl (by omega), by go_num, HCr.out.trans HC4.out⟩
          case measure => simp [intOf]; omega
    · go_wp2_with fail
      go_ret
      exact ⟨rfl, HCr.out⟩
end Go.Proofs.YtafdfmdcnniccaaGreat.ofs
