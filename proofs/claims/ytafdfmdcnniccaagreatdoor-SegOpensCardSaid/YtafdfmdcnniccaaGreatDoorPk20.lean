/- Layer 5, plain laws: a row's bytes are synced, cut, dropped. -/
import Derived.Test.YtafdfmdcnniccaaGreatDoorRows
import Derived.WalkKit
import Derived.ProofKit
import Derived.OpenShut
import Derived.Handy
import Derived.Deep.LoopGhost
import Derived.Lib.Hide
import Derived.Lib.Strings
import Derived.SizedLaws
import Derived.Maps.Own
import Derived.Maps.OwnOps
import Derived.Maps.OwnSet
import Derived.Maps.RangeWalk
import Derived.Deep.QuietTactic
import Derived.BigQuiet
import Derived.Deep.RegionHeld3
import Derived.Lib.ConvBytes
import Derived.Lib.AppendZeros
import Derived.Lib.AppendZerosOnto
import Derived.Lib.LazyBuf
import Derived.Shelf.Abstract
import Derived.LaidEql
import Derived.Lib.SliceRun
import Derived.StillTailTactics
import Derived.Deep.Slices
import Derived.Lib.Atoi
import Derived.Lib.ItoaNum
import Derived.Lib.SlTrimSet
import Derived.Shelf.SlIter.Nil
import Derived.Ground.GgzProg
import Derived.Shelf.SortM.Plain
import Derived.Shelf.SortM.SortNone
import Derived.Ground.SlgmProg
import Derived.Shelf.SlicesE.DeleteFunc
import Derived.Ground.SlgfProg
import Derived.Test.YtafdfmdcnniccaaGreatDoorProg
import Derived.Shelf.Strings.Builder1
import Derived.Shelf.Strings.Builder2
import Derived.Shelf.Strings.Trim
import Derived.Shelf.Small.Utf8
import Derived.Shelf.Small.Bits
import Derived.Shelf.Small.Strs
import Derived.Shelf.Small.Wraps
import Derived.Shelf.Strings.BuilderF
import Derived.Shelf.Strings.BuilderK
import Derived.Shelf.Strings.Builder2Cap
import Derived.Shelf.Strconv.Atoi
import Derived.Shelf.Strconv.Itoa0
import Derived.Shelf.Strconv.Itoa1
import Derived.Shelf.LaysM
import Derived.Shelf.Strconv.Itoa2
import Derived.Shelf.Strconv.Itoa3
import Derived.Shelf.Strings.Search1
import Derived.Shelf.Strings.Prefix
import Derived.Shelf.Strings.Runes
import Derived.Shelf.Strings.AsciiSet
import Derived.Shelf.Bits.Mul64
import Derived.Shelf.Strings.Repeat
import Derived.Shelf.Unicode.DecodeSlow
import Derived.Shelf.Strings.BuilderCap
import Derived.Ground.Names2Prog
import Derived.Shelf.Slices.Clone
import Derived.Ground.SlgnProg
import Derived.Shelf.SlicesE.Clone
import Derived.Shelf.SlicesE.IndexFunc
import Derived.Shelf.Strings.SlTrimAscii
import Derived.Lib.Repeat
import Derived.Lib.LaidTab
import Derived.Deep.RegionLaw
import Derived.Deep.RegionWith
import Derived.Test.YtafdfmdcnniccaaGreatDoorPk19
namespace Go.Proofs.YtafdfmdcnniccaaGreatDoor.sg
open Go.Proofs.YtafdfmdcnniccaaGreatDoor.dk

section
variable {D E : DiskS} {R : RowS} {b : List UInt8} {c m : Nat}
theorem turn_bytes {n : ByteArray} {g : FileS → FileS} (hg : ∀ x, (g x).name = x.name ∧ (g x).now = x.now) (s : ByteArray) : (D.turn n g).bytes s = D.bytes s := by
  unfold DiskS.bytes DiskS.find DiskS.turn
  simp only
  rw [List.find?_map, Option.map_map]
  have h1 : ((fun f : FileS => decide (f.name = s)) ∘ fun x => if x.name = n then g x else x) = fun f : FileS => decide (f.name = s) := by
    funext x
    simp only [Function.comp]
    split <;> simp [hg]
  have h2 : ((fun f : FileS => f.now) ∘ fun x => if x.name = n then g x else x) = fun f : FileS => f.now := by
    funext x
    simp only [Function.comp]
    split <;> simp [hg]
  rw [h1]
  cases D.files.find? (fun f => decide (f.name = s)) with
  | none => rfl
  | some f => simp only [Option.map_some]; exact congrArg some (congrFun h2 f)
theorem last_bytes (n s : ByteArray) : (D.last n).bytes s = D.bytes s := by
  unfold DiskS.last
  split
  · rfl
  · exact turn_bytes (D := D) (n := n) (g := fun f => { f with image := f.now }) (fun _ => ⟨rfl, rfl⟩) s
theorem last_same (n : ByteArray) : (D.last n).left = D.left ∧ (D.last n).down = D.down ∧ (D.last n).cap = D.cap ∧ (D.last n).size = D.size := by
  unfold DiskS.last
  split
  · exact ⟨rfl, rfl, rfl, rfl⟩
  · exact ⟨rfl, rfl, rfl, total_map_eq (fun x _ => by split <;> rfl)⟩
theorem lasts_same (l : List ByteArray) : ∀ D : DiskS, (∀ s, (l.foldl DiskS.last D).bytes s = D.bytes s) ∧ (l.foldl DiskS.last D).left = D.left ∧ (l.foldl DiskS.last D).down = D.down ∧ (l.foldl DiskS.last D).cap = D.cap ∧ (l.foldl DiskS.last D).size = D.size := by
  induction l with
  | nil => exact fun _ => ⟨fun _ => rfl, rfl, rfl, rfl, rfl⟩
  | cons n l ih =>
    intro D
    obtain ⟨h1, h2, h3, h4, h5⟩ := ih (D.last n)
    obtain ⟨k2, k3, k4, k5⟩ := last_same (D := D) n
    exact ⟨fun s => (h1 s).trans (last_bytes n s), h2.trans k2, h3.trans k3, h4.trans k4, h5.trans k5⟩
theorem bars_ok (ha : Alive D) {l : List ByteArray} (hl : ∀ n ∈ l, D.has n = true) : D.bars l = 0 := by
  unfold DiskS.bars
  rw [if_neg (by rw [ha.down]; decide), if_pos (List.all_eq_true.2 hl)]
theorem Able.sync (h : Able D c m) {l : List ByteArray} (hl : ∀ n ∈ l, D.has n = true) : ∃ E, D.sync l = (0, E) ∧ E = l.foldl DiskS.last D ∧ (∀ s, E.bytes s = D.bytes s) ∧ Able E c m := by
  obtain ⟨h1, h2, h3, h4, h5⟩ := lasts_same l D
  refine ⟨_, by unfold DiskS.sync; rw [if_neg (by rw [bars_ok h.alive hl]; exact fun h => h rfl), h.alive.doing], rfl, h1, ⟨⟨h2.trans h.alive.left, h3.trans h.alive.down⟩, h4.trans h.cap, by rw [h5]; exact h.size, ?_, ?_⟩⟩
  · rw [lasts_names]; exact h.few
  · rw [lasts_names]; exact h.names
theorem Holds.has (h : Holds D R b) {k : Nat} (hk : k ∈ R.places) : D.has (nameB R.head k) = true := by
  obtain ⟨i, hi, rfl⟩ := mem_plc.1 hk
  rw [bytes_has, h.segs i hi]; rfl
theorem Holds.sync (h : Holds D R b) (ha : Able D c m) (hsy : R.synced ≤ R.fin) : ∃ E, syncD D R = (0, E, R.clean) ∧ Holds E R.clean b ∧ Able E c m ∧ (∀ s, E.bytes s = D.bytes s) := by
  by_cases h0 : R.dirty = []
  · have he : R.synced = R.fin := by
      by_cases h1 : R.synced < R.fin
      · exfalso
        have h2 : 0 < R.cnt := by
          rcases Nat.eq_zero_or_pos R.cnt with h2 | h2
          · have := h.ok.none h2; omega
          · exact h2
        have h3 := h.ok.fin h2
        have h4 := RowOk.stop (R := R) h2
        have h5 : R.lastp ∈ R.dirty := by
          unfold RowS.dirty
          rw [List.mem_filter]
          refine ⟨mem_plc.2 ⟨R.cnt - 1, by omega, rfl⟩, ?_⟩
          rw [Bool.and_eq_true, decide_eq_true_eq, decide_eq_true_eq]; omega
        rw [h0] at h5; cases h5
      · omega
    have hc : R.clean = R := by cases R; simp only at he; subst he; rfl
    refine ⟨D, ?_, by rw [hc]; exact h, ha, fun _ => rfl⟩
    unfold syncD; rw [if_neg (by rw [ha.alive.down]; decide), if_pos h0, hc]
  · obtain ⟨E, h1, _, h2, h3⟩ := ha.sync (l := R.dirty.map (nameB R.head)) (fun n hn => by
      obtain ⟨k, hk, rfl⟩ := List.mem_map.1 hn
      exact h.has (List.mem_filter.1 hk).1)
    refine ⟨E, ?_, ⟨h.ok.clean, h.size, fun i hi => (h2 _).trans (h.segs i hi), fun k hk hh => h.only k hk ?_⟩, h3, h2⟩
    · unfold syncD; rw [if_neg (by rw [ha.alive.down]; decide), if_neg h0, h1]; rfl
    · have hh : E.has (nameB R.head k) = true := hh
      rw [bytes_has] at hh ⊢; rwa [h2] at hh
theorem drop_bytes (n s : ByteArray) : (D.drop n).bytes s = if s = n then none else D.bytes s := by
  by_cases h : s = n
  · subst h
    rw [if_pos rfl]
    unfold DiskS.bytes
    rw [drop_gone]; rfl
  · rw [if_neg h]
    unfold DiskS.bytes
    rw [drop_find h]
theorem drop_same (n : ByteArray) : (D.drop n).left = D.left ∧ (D.drop n).down = D.down ∧ (D.drop n).cap = D.cap ∧ (D.drop n).size ≤ D.size := by
  unfold DiskS.drop
  split
  · exact ⟨rfl, rfl, rfl, Nat.le_refl _⟩
  · exact ⟨rfl, rfl, rfl, total_filter_le _ _⟩
theorem drops_same (l : List ByteArray) : ∀ D : DiskS, ((∀ s, s ∈ l → (l.foldl DiskS.drop D).bytes s = none) ∧ ∀ s, ¬ s ∈ l → (l.foldl DiskS.drop D).bytes s = D.bytes s) ∧ (l.foldl DiskS.drop D).left = D.left ∧ (l.foldl DiskS.drop D).down = D.down ∧ (l.foldl DiskS.drop D).cap = D.cap ∧ (l.foldl DiskS.drop D).size ≤ D.size := by
  induction l with
  | nil => exact fun _ => ⟨⟨fun _ h => (by cases h), fun _ _ => rfl⟩, rfl, rfl, rfl, Nat.le_refl _⟩
  | cons n l ih =>
    intro D
    obtain ⟨h1, h2, h3, h4, h5⟩ := ih (D.drop n)
    obtain ⟨k2, k3, k4, k5⟩ := drop_same (D := D) n
    refine ⟨⟨fun s hs => ?_, fun s hs => ?_⟩, h2.trans k2, h3.trans k3, h4.trans k4, Nat.le_trans h5 k5⟩
    · rw [List.foldl_cons]
      by_cases e1 : s ∈ l
      · exact h1.1 s e1
      · rw [h1.2 s e1, drop_bytes, if_pos ((List.mem_cons.1 hs).resolve_right e1)]
    · rw [List.foldl_cons, h1.2 s (fun h => hs (List.mem_cons_of_mem _ h)), drop_bytes, if_neg (fun h => hs (by rw [h]; exact List.mem_cons_self ..))]
theorem Able.delete (h : Able D c m) {l : List ByteArray} (hl : ∀ n ∈ l, D.has n = true) : ∃ E, D.delete l = (0, E) ∧ E = l.foldl DiskS.drop D ∧ ((∀ s, s ∈ l → E.bytes s = none) ∧ ∀ s, ¬ s ∈ l → E.bytes s = D.bytes s) ∧ Able E c m := by
  obtain ⟨h1, h2, h3, h4, h5⟩ := drops_same l D
  refine ⟨_, by unfold DiskS.delete; rw [if_neg (by rw [bars_ok h.alive hl]; exact fun h => h rfl), h.alive.doing], rfl, h1, ⟨⟨h2.trans h.alive.left, h3.trans h.alive.down⟩, h4.trans h.cap, Nat.le_trans h5 h.size, ?_, fun s hs => h.names s ((drops_names l D).subset hs)⟩⟩
  exact Nat.le_trans (drops_names l D).length_le h.few
theorem drops_form (l : List ByteArray) : ∀ D : DiskS, dk.Form D → dk.Form (l.foldl DiskS.drop D) := by
  induction l with
  | nil => exact fun _ h => h
  | cons n l ih => exact fun D h => ih _ (h.drop n)
theorem Able.cut (h : Able D c m) (hF : dk.Form D) {n s : ByteArray} (hb : D.bytes n = some s) (k : Nat) (hk : k ≤ s.size) : ∃ E, D.cut n k = (0, E) ∧ But D E n (s.extract 0 k) ∧ Able E c m := by
  obtain ⟨f, hf, rfl⟩ := bytes_some hb
  obtain ⟨k2, k3, k4, k5⟩ := last_same (D := D.turn n fun f => { f with now := f.now.extract 0 k }) n
  have hsz : (D.turn n fun f => { f with now := f.now.extract 0 k }).size ≤ D.size := total_map_le (fun x _ => by
    split
    · show (x.now.extract 0 k).size ≤ _
      rw [ByteArray.size_extract]; omega
    · exact Nat.le_refl _)
  refine ⟨(D.turn n fun f => { f with now := f.now.extract 0 k }).last n, ?_, ⟨⟨k2.trans h.alive.left, k3.trans h.alive.down⟩, k4, ?_, fun s hs => ?_⟩, ⟨⟨k2.trans h.alive.left, k3.trans h.alive.down⟩, k4.trans h.cap, by rw [k5]; exact Nat.le_trans hsz h.size, ?_, ?_⟩⟩
  · unfold DiskS.cut
    rw [h.alive.down, hf]
    simp only [Int.toNat_natCast]
    rw [if_neg (by decide), if_neg (by omega), h.alive.doing]
  · rw [last_bytes]
    show ((D.turn n _).find n).map _ = _
    rw [find_turn_same hF hf (fun f => { f with now := f.now.extract 0 k }) (fun _ => rfl)]; rfl
  · rw [last_bytes]
    show ((D.turn n _).find s).map _ = _
    rw [find_turn_other (Ne.symm hs) (fun f => { f with now := f.now.extract 0 k }) (fun _ => rfl)]; rfl
  · rw [last_names, turn_names (g := fun f => { f with now := f.now.extract 0 k }) (fun _ => rfl)]; exact h.few
  · rw [last_names, turn_names (g := fun f => { f with now := f.now.extract 0 k }) (fun _ => rfl)]; exact h.names
theorem extract_list (s : ByteArray) (i j : Nat) : (s.extract i j).data.toList = (s.data.toList.take j).drop i := by
  rw [ByteArray.data_extract, Array.toList_extract, List.extract_eq_take_drop, List.drop_take]
theorem bA_extract (l : List UInt8) (k : Nat) : (bA l).extract 0 k = bA (l.take k) := by
  refine ba_ext ?_
  rw [extract_list, bA_list, bA_list]; rfl
theorem name_mem {head : ByteArray} {l : List Nat} (hl : ∀ k ∈ l, k < 100000000) {k : Nat} (hk : k < 100000000) : nameB head k ∈ l.map (nameB head) ↔ k ∈ l := by
  constructor
  · intro h
    obtain ⟨j, hj, e⟩ := List.mem_map.1 h
    rw [← name_inj (hl j hj) hk e]; exact hj
  · exact fun h => List.mem_map.2 ⟨k, h, rfl⟩
theorem RowOk.placesLt (h : RowOk R) : ∀ k ∈ R.places, k < 100000000 := fun k hk => by
  obtain ⟨i, hi, rfl⟩ := mem_plc.1 hk
  have := (h.place hi).2; omega
theorem seg_take (b : List UInt8) (size i j : Nat) (h : i * size + size ≤ j) : segL (b.take j) size i = segL b size i := by
  unfold segL
  rw [List.drop_take, List.take_take]
  congr 1
  omega
/-- The segments behind a place go. -/
theorem Holds.cutA (h : Holds D R b) (ha : Able D c m) (hF : dk.Form D) (j : Int) : ∃ E, cutA D R j = (0, E, R.cutR j) ∧ Able E c m ∧ dk.Form E ∧ Only D E R.head ∧ (R.cutR j).head = R.head ∧ (R.cutR j).size = R.size ∧
    (RowOk (R.cutR j) → Holds E (R.cutR j) (b.take ((R.cutR j).fin - R.start))) := by
  rcases keepN_cases R j with ⟨_, e⟩ | ⟨_, h3, h4, _⟩
  · have hc : R.cutR j = R := by unfold RowS.cutR; rw [if_pos e]
    rw [hc]
    refine ⟨D, by unfold sg.cutA; rw [if_pos e], ha, hF, Only.refl _ _, rfl, rfl, fun _ => ?_⟩
    rw [List.take_of_length_le (by have := h.size; omega)]; exact h
  · have hc : R.cutR j = R.firsts (R.keepN j) := by unfold RowS.cutR; rw [if_neg (by omega)]
    rw [hc]
    obtain ⟨i, hi⟩ : ∃ i, R.keepN j = i := ⟨_, rfl⟩
    rw [hi] at h3 h4 hc ⊢
    have hpl := h.ok.placesLt
    obtain ⟨E, h1, h2, hb, h5⟩ := ha.delete (l := (R.places.drop i).map (nameB R.head)) (fun n hn => by
      obtain ⟨k, hk, rfl⟩ := List.mem_map.1 hn
      exact h.has (List.mem_of_mem_drop hk))
    have hdr : ∀ k ∈ R.places.drop i, k < 100000000 := fun k hk => hpl k (List.mem_of_mem_drop hk)
    obtain ⟨k1, k2, k3⟩ := h.ok.firsts h4 h3
    have hsz := h.ok.size
    refine ⟨E, by unfold sg.cutA; rw [if_neg (by omega), hi, h1]; rfl, h5, by rw [h2]; exact drops_form _ _ hF, fun n hn => ?_, rfl, rfl, fun hok => ⟨hok, ?_, fun q hq => ?_, fun k hk hh => ?_⟩⟩
    · refine hb.2 _ (fun hm => ?_)
      obtain ⟨k, hk, rfl⟩ := List.mem_map.1 hm
      exact hn k (hdr k hk) rfl
    · have hs := h.size
      show (R.firsts i).fin = R.start + (b.take ((R.firsts i).fin - R.start)).length
      rw [k2, List.length_take]
      have := (h.ok.fin (by omega)).1
      have := (h.ok.place h3).1
      omega
    · have hq : q < i := hq
      have hqp := (h.ok.place (k := q) (by omega)).2
      have hlt := plc_lt (size := R.size) hq
      show E.bytes (nameB R.head (R.start + q * R.size)) = some (bA (segL (b.take ((R.firsts i).fin - R.start)) R.size q))
      rw [k2, hb.2, h.segs q (by omega), seg_take _ _ _ _ (by omega)]
      rw [name_mem hdr (by omega)]
      unfold RowS.places
      rw [plc_drop]
      intro hm
      obtain ⟨t, _, ht⟩ := mem_plc.1 hm
      have : i * R.size ≤ i * R.size + t * R.size := Nat.le_add_right _ _
      omega
    · have hh : E.has (nameB R.head k) = true := hh
      show k ∈ plc R.start R.size i
      rw [bytes_has] at hh
      by_cases hm : nameB R.head k ∈ (R.places.drop i).map (nameB R.head)
      · rw [hb.1 _ hm] at hh; cases hh
      · rw [hb.2 _ hm, ← bytes_has] at hh
        have h6 := h.only k hk hh
        rw [name_mem hdr hk] at hm
        have h7 : k ∈ R.places.take i ++ R.places.drop i := by rw [List.take_append_drop]; exact h6
        rcases List.mem_append.1 h7 with h8 | h8
        · unfold RowS.places at h8
          rwa [plc_take _ _ _ _ (by omega)] at h8
        · exact absurd h8 hm
theorem cut_bad (ha : Alive D) {j : Int} (h : j < R.start ∨ (R.fin : Int) < j) : cutD D R j = (2, D, R) := by
  unfold cutD; rw [if_neg (by rw [ha.down]; decide), if_pos h]
/-- 'Cut', where it goes well. -/
theorem Holds.cut (h : Holds D R b) (ha : Able D c m) (hF : dk.Form D) {j : Nat} (h1 : R.start ≤ j) (h2 : j ≤ R.fin) :
    ∃ E R', cutD D R j = (0, E, R') ∧ Holds E R' (b.take (j - R.start)) ∧ Able E c m ∧ Only D E R.head ∧ Tight R' ∧ R'.head = R.head ∧ R'.size = R.size ∧ R'.start = R.start ∧ R'.synced = min R.synced j ∧ R'.fin = j ∧ (R'.cnt = 0 ↔ R.cnt = 0) := by
  obtain ⟨c1, c2, c3, c4⟩ := cut_facts h.ok h1 h2
  obtain ⟨E, e1, e2, e3, e4, e5, e6, e7⟩ := h.cutA ha hF j
  have hH := e7 c1
  have hsy : (R.cutR j).synced = R.synced := by unfold RowS.cutR; split <;> rfl
  have hcz : ((R.cutR j).cnt = 0 ↔ R.cnt = 0) := by
    unfold RowS.cutR
    split
    · exact Iff.rfl
    · rename_i hne
      rcases keepN_cases R j with ⟨_, e⟩ | ⟨_, h3, h4, _⟩
      · exact absurd e hne
      · show R.keepN j = 0 ↔ _
        omega
  have hT : (R.cutR j).cnt ≤ 1 ∨ (R.cutR j).lastp < j := by
    by_cases hc : (R.cutR j).cnt ≤ 1
    · exact .inl hc
    · refine .inr ?_
      have hq : cutQ R j (R.cutR j).lastp = false ∧ R.start < (R.cutR j).lastp := by
        have hle : (R.cutR j).cnt ≤ R.keepN j ∧ (R.cutR j).cnt ≤ R.cnt ∧ (R.cutR j).lastp = R.start + ((R.cutR j).cnt - 1) * R.size := by
          unfold RowS.cutR
          split
          · rename_i e; exact ⟨by rw [e]; exact Nat.le_refl _, Nat.le_refl _, rfl⟩
          · rename_i e
            rcases keepN_cases R j with ⟨_, e'⟩ | ⟨_, h3, h4, _⟩
            · exact absurd e' e
            · exact ⟨Nat.le_refl _, Nat.le_of_lt h3, rfl⟩
        obtain ⟨l1, l2, l3⟩ := hle
        have hz := h.ok.size
        have hpos := Nat.mul_le_mul_right R.size (show 1 ≤ (R.cutR j).cnt - 1 by omega)
        refine ⟨?_, by rw [l3]; omega⟩
        have hg : R.places[(R.cutR j).cnt - 1]'(by rw [R.length]; omega) = (R.cutR j).lastp := by rw [l3]; exact plc_get _ _ _ _
        rw [keepN_eq] at l1
        rw [← hg]
        cases hf : R.places.findIdx? (cutQ R j) with
        | none =>
          rw [List.findIdx?_eq_none_iff] at hf
          exact hf _ (List.getElem_mem _)
        | some i =>
          rw [hf] at l1
          rw [List.findIdx?_eq_some_iff_getElem] at hf
          obtain ⟨_, _, hx⟩ := hf
          have l1 : (R.cutR j).cnt ≤ i := l1
          simpa using hx ((R.cutR j).cnt - 1) (by omega)
      unfold cutQ at hq
      rw [Bool.and_eq_false_iff, decide_eq_false_iff_not, decide_eq_false_iff_not] at hq
      omega
  obtain ⟨R1, hR1⟩ : ∃ R1, R.cutR j = R1 := ⟨_, rfl⟩
  rw [hR1] at c1 c2 c3 c4 e1 e5 e6 hH hsy hcz hT
  have hcd : cutD D R j = cutB E R1 j := by
    unfold cutD
    rw [if_neg (by rw [ha.alive.down]; decide), if_neg (by omega), e1, if_neg (fun h => h rfl)]
  rw [hcd]
  by_cases hj : j < R1.fin
  · have h0 : 0 < R1.cnt := by
      rcases Nat.eq_zero_or_pos R1.cnt with h0 | h0
      · have := c1.none h0; omega
      · exact h0
    have hl := hH.lastLen h0
    have hlp := c1.least h0
    have hb := hH.segs (R1.cnt - 1) (by omega)
    have hle := lastp_eq R1
    have hsz := hH.size
    rw [← hle] at hb
    have hlen : (segL (b.take (R1.fin - R.start)) R1.size (R1.cnt - 1)).length = R1.fin - R1.lastp := by rw [seg_length]; omega
    obtain ⟨G, g1, g2, g3⟩ := e2.cut e3 hb (j - R1.lastp) (by rw [bA_size, hlen]; omega)
    have hcast : ((j - R1.lastp : Nat) : Int) = (j : Int) - R1.lastp := by omega
    rw [hcast] at g1
    refine ⟨G, R1.ends j, by unfold cutB; rw [if_pos (by omega), g1, Int.toNat_natCast]; rfl, ⟨c1.ends (by omega) c3 (by omega), ?_, fun i hi => ?_, fun k hk hh => ?_⟩, g3, e4.trans (by rw [← e5]; exact but_only (by omega) g2), hT, e5, e6, c2, by show min R1.synced j = _; rw [hsy], rfl, hcz⟩
    · show j = R1.start + (b.take (j - R.start)).length
      have hlb : (b.take (R1.fin - R.start)).length = min (R1.fin - R.start) b.length := List.length_take
      rw [List.length_take]
      omega
    · have hi : i < R1.cnt := hi
      show G.bytes (nameB R1.head (R1.start + i * R1.size)) = some (bA (segL (b.take (j - R.start)) R1.size i))
      have htt : b.take (j - R.start) = (b.take (R1.fin - R.start)).take (j - R.start) := by rw [List.take_take]; congr 1; omega
      rw [htt]
      by_cases he : i = R1.cnt - 1
      · subst he
        rw [← hle, g2.this, bA_extract]
        congr 2
        unfold segL
        simp only [List.drop_take, List.take_take]
        congr 1
        omega
      · have hlt := plc_lt (size := R1.size) (show i < R1.cnt - 1 by omega)
        have hpi := (c1.place hi).2
        have hz := c1.size
        rw [g2.others _ (fun e => by have := name_inj (by omega) (by omega) e; omega), hH.segs i hi, seg_take (b.take (R1.fin - R.start)) _ _ (j - R.start) (by omega)]
    · have hh : G.has (nameB R1.head k) = true := hh
      refine hH.only k hk ?_
      rw [bytes_has] at hh ⊢
      by_cases he : k = R1.lastp
      · rw [he, hb]; rfl
      · rwa [g2.others _ (fun e => he (name_inj hk (by omega) e))] at hh
  · have hje : R1.fin = j := by omega
    refine ⟨E, R1.ends R1.fin, by unfold cutB; rw [if_neg (by omega)], ⟨c1.ends (by omega) (by omega) (Nat.le_refl _), ?_, ?_, hH.only⟩, e2, e4, by rw [← hje] at hT; exact hT, e5, e6, c2, by show min R1.synced R1.fin = _; rw [hsy, hje], hje, hcz⟩
    · rw [← hje]; exact hH.size
    · rw [← hje]; exact hH.segs
/-- 'Drop', where it goes well. -/
theorem Holds.drop (h : Holds D R b) (ha : Able D c m) (h2 : 2 ≤ R.cnt) :
    ∃ E, dropD D R = ((((R.start + R.size : Nat) : Int), 0), E, R.rest) ∧ Holds E R.rest (b.drop R.size) ∧ Able E c m ∧ Only D E R.head := by
  have hsz := h.ok.size
  have hp0 := (h.ok.place (k := 0) (by omega)).2
  rw [Nat.zero_mul, Nat.add_zero] at hp0
  have hm0 : R.start ∈ R.places := mem_plc.2 ⟨0, by omega, by simp⟩
  obtain ⟨E, h1, _, hb, h5⟩ := ha.delete (l := [nameB R.head R.start]) (fun n hn => by rw [List.mem_singleton] at hn; rw [hn]; exact h.has hm0)
  have hin : ∀ k, k < 100000000 → (nameB R.head k ∈ [nameB R.head R.start] ↔ k = R.start) := fun k hk => by
    rw [List.mem_singleton]
    exact ⟨fun e => name_inj hk (by omega) e, fun e => by rw [e]⟩
  refine ⟨E, by unfold dropD; rw [if_neg (by rw [ha.alive.down]; decide), if_neg (by omega), h1]; rfl, ⟨h.ok.rest h2, ?_, fun i hi => ?_, fun k hk hh => ?_⟩, h5, fun n hn => ?_⟩
  · show R.fin = R.start + R.size + (b.drop R.size).length
    have h3 := h.lastLen (by omega)
    have h4 := Nat.mul_le_mul_right R.size (show 1 ≤ R.cnt - 1 by omega)
    have := h.size
    rw [List.length_drop]
    omega
  · have hi : i < R.cnt - 1 := hi
    have hpi := (h.ok.place (k := i + 1) (by omega)).2
    have e1 : R.start + R.size + i * R.size = R.start + (i + 1) * R.size := by rw [Nat.succ_mul]; omega
    show E.bytes (nameB R.head (R.start + R.size + i * R.size)) = some (bA (segL (b.drop R.size) R.size i))
    rw [e1, hb.2, h.segs (i + 1) (by omega)]
    · congr 2
      unfold segL
      rw [List.drop_drop, Nat.succ_mul, Nat.add_comm]
    · rw [hin _ (by omega), Nat.succ_mul]
      have : i * R.size + R.size ≥ R.size := Nat.le_add_left _ _
      omega
  · have hh : E.has (nameB R.head k) = true := hh
    rw [bytes_has] at hh
    show k ∈ plc (R.start + R.size) R.size (R.cnt - 1)
    by_cases hm : nameB R.head k ∈ [nameB R.head R.start]
    · rw [hb.1 _ hm] at hh; cases hh
    · rw [hb.2 _ hm, ← bytes_has] at hh
      rw [hin k hk] at hm
      obtain ⟨i, hi, e⟩ := mem_plc.1 (h.only k hk hh)
      cases i with
      | zero => simp at e; exact absurd e hm
      | succ i => exact mem_plc.2 ⟨i, by omega, by rw [e, Nat.succ_mul]; omega⟩
  · refine hb.2 _ ?_
    rw [List.mem_singleton]
    exact hn R.start (by omega)
theorem drop_bad (ha : Alive D) (h : R.cnt < 2) : dropD D R = ((0, 9), D, R) := by
  unfold dropD; rw [if_neg (by rw [ha.down]; decide), if_pos h]
end
end Go.Proofs.YtafdfmdcnniccaaGreatDoor.sg

/- Layer 5, plain laws: a row is opened anew. -/
namespace Go.Proofs.YtafdfmdcnniccaaGreatDoor.sg
open Go.Proofs.YtafdfmdcnniccaaGreatDoor.dk

section
variable {D E : DiskS} {R : RowS} {b : List UInt8} {c m : Nat} {head : ByteArray} {size : Nat}
theorem foldl_found (l : List ByteArray) : ∀ x : FoundS, l.foldl (findOne D head size) x = (l.filterMap (placeOf head)).foldl (fun x k => findStep size x (nameB head k) k (D.len (nameB head k))) x := by
  induction l with
  | nil => exact fun _ => rfl
  | cons n l ih =>
    intro x
    rw [List.foldl_cons, List.filterMap_cons]
    cases hp : placeOf head n with
    | none =>
      have h1 : findOne D head size x n = x := by unfold findOne; rw [hp]
      rw [h1]; exact ih x
    | some k =>
      obtain ⟨_, rfl⟩ := name_place hp
      have h1 : findOne D head size x (nameB head k) = findStep size x (nameB head k) k (D.len (nameB head k)) := by unfold findOne; rw [hp]
      rw [h1, ih]; rfl
/-- The places that a disk's names tell. -/
def placesL (D : DiskS) (head : ByteArray) : List Nat := (D.names head).filterMap (placeOf head)
theorem found_places (D : DiskS) (head : ByteArray) (size : Nat) : foundD D head size = (placesL D head).foldl (fun x k => findStep size x (nameB head k) k (D.len (nameB head k))) ⟨0, 0, 0, true, []⟩ := foldl_found _ _
theorem has_file {n : ByteArray} : D.has n = true ↔ ∃ f ∈ D.files, f.name = n := by
  unfold DiskS.has
  constructor
  · intro h
    cases hf : D.find n with
    | none => rw [hf] at h; cases h
    | some f => exact ⟨f, (find_some hf).1, (find_some hf).2⟩
  · rintro ⟨f, hf, e⟩
    cases hx : D.find n with
    | none => exact absurd e (find_none hx f hf)
    | some g => rfl
theorem mem_names {n : ByteArray} : n ∈ D.names head ↔ D.has n = true ∧ Lib.hasPrefix n.data.toList head.data.toList = true := by
  rw [has_file]
  unfold DiskS.names DiskS.namesL
  rw [List.mem_map]
  constructor
  · rintro ⟨l, hl, rfl⟩
    rw [List.mem_filter, List.mem_mergeSort, List.mem_map] at hl
    obtain ⟨⟨f, hf, rfl⟩, hp⟩ := hl
    exact ⟨⟨f, hf, rfl⟩, hp⟩
  · rintro ⟨⟨f, hf, rfl⟩, hp⟩
    exact ⟨f.name.data.toList, by rw [List.mem_filter, List.mem_mergeSort, List.mem_map]; exact ⟨⟨f, hf, rfl⟩, hp⟩, rfl⟩
theorem mem_places {k : Nat} : k ∈ placesL D head ↔ k < 100000000 ∧ D.has (nameB head k) = true := by
  unfold placesL
  rw [List.mem_filterMap]
  constructor
  · rintro ⟨n, hn, hp⟩
    obtain ⟨h1, rfl⟩ := name_place hp
    exact ⟨h1, (mem_names.1 hn).1⟩
  · rintro ⟨h1, h2⟩
    exact ⟨_, mem_names.2 ⟨h2, name_prefix head k⟩, place_name head h1⟩
theorem append_lt (h : List UInt8) {a b : List UInt8} (hab : a < b) : h ++ a < h ++ b := by
  induction h with
  | nil => exact hab
  | cons x h ih => rw [List.cons_append, List.cons_append, List.cons_lt_cons_iff]; exact .inr ⟨rfl, ih⟩
theorem names_pair (hF : dk.Form D) (head : ByteArray) : (D.names head).Pairwise fun n s => n.data.toList ≤ s.data.toList ∧ n ≠ s := by
  have h1 := List.pairwise_mergeSort (le := fun x y : List UInt8 => decide (x ≤ y)) (fun a b c h1 h2 => by simp at h1 h2 ⊢; exact List.le_trans h1 h2) (fun a b => by simp; exact List.le_total a b) (D.files.map fun f => f.name.data.toList)
  have h2 : ((D.files.map fun f => f.name.data.toList).mergeSort (fun x y => decide (x ≤ y))).Nodup := by
    rw [(List.mergeSort_perm _ _).nodup_iff]
    have h3 : (D.files.map fun f => f.name.data.toList) = (D.files.map (·.name)).map fun n => n.data.toList := by rw [List.map_map]; rfl
    rw [h3]
    exact List.Pairwise.map _ (fun a b h e => h (ba_ext e)) hF.names
  unfold DiskS.names DiskS.namesL
  rw [List.pairwise_map]
  refine ((h1.and h2).filter _).imp ?_
  rintro a b ⟨h3, h4⟩
  refine ⟨by simpa using h3, fun e => h4 ?_⟩
  have := congrArg (fun n : ByteArray => n.data.toList) e
  exact this
theorem places_rise (hF : dk.Form D) (head : ByteArray) : (placesL D head).Pairwise (· < ·) := by
  unfold placesL
  rw [List.pairwise_filterMap]
  refine (names_pair hF head).imp ?_
  rintro n s ⟨h1, h2⟩ k hk j hj
  obtain ⟨k1, rfl⟩ := name_place hk
  obtain ⟨j1, rfl⟩ := name_place hj
  rcases Nat.lt_trichotomy k j with h | h | h
  · exact h
  · exact absurd (by rw [h]) h2
  · exact absurd (append_lt head.data.toList (dL_lt h k1)) h1
theorem rising_eq : ∀ {l m : List Nat}, l.Pairwise (· < ·) → m.Pairwise (· < ·) → (∀ k, k ∈ l ↔ k ∈ m) → l = m
  | [], [], _, _, _ => rfl
  | [], b :: m, _, _, h => absurd ((h b).2 (List.mem_cons_self ..)) (by simp)
  | a :: l, [], _, _, h => absurd ((h a).1 (List.mem_cons_self ..)) (by simp)
  | a :: l, b :: m, h1, h2, h => by
    rw [List.pairwise_cons] at h1 h2
    have e : a = b := by
      rcases List.mem_cons.1 ((h a).1 (List.mem_cons_self ..)) with e | e
      · exact e
      · rcases List.mem_cons.1 ((h b).2 (List.mem_cons_self ..)) with e2 | e2
        · exact e2.symm
        · have := h1.1 b e2; have := h2.1 a e; omega
    subst e
    rw [rising_eq h1.2 h2.2 (fun k => ?_)]
    constructor
    · intro hk
      rcases List.mem_cons.1 ((h k).1 (List.mem_cons_of_mem _ hk)) with e | e
      · have := h1.1 k hk; omega
      · exact e
    · intro hk
      rcases List.mem_cons.1 ((h k).2 (List.mem_cons_of_mem _ hk)) with e | e
      · have := h2.1 k hk; omega
      · exact e
theorem plc_rise (a : Nat) {s : Nat} (hs : 0 < s) (c : Nat) : (plc a s c).Pairwise (· < ·) := by
  unfold plc
  rw [List.pairwise_map]
  refine List.pairwise_lt_range.imp ?_
  intro i j h
  have := plc_lt (size := s) h
  omega
theorem Holds.placesEq (h : Holds D R b) (hF : dk.Form D) : placesL D R.head = R.places := by
  refine rising_eq (places_rise hF _) (plc_rise _ (by have := h.ok.size; omega) _) (fun k => ?_)
  rw [mem_places]
  exact ⟨fun hk => h.only k hk.1 hk.2, fun hk => ⟨h.ok.placesLt k hk, h.has hk⟩⟩
theorem len_bytes {n s : ByteArray} (h : D.bytes n = some s) : D.len n = s.size := by
  obtain ⟨f, hf, rfl⟩ := bytes_some h
  unfold DiskS.len; rw [hf]
theorem Holds.fold (h : Holds D R b) : ∀ k, k ≤ R.cnt → ∃ wh, (plc R.start R.size k).foldl (fun x k => findStep R.size x (nameB R.head k) k (D.len (nameB R.head k))) ⟨0, 0, 0, true, []⟩ = ⟨if k = 0 then 0 else R.start, k, if k = 0 then 0 else min (R.start + k * R.size) R.fin, wh, []⟩ ∧ (k < R.cnt → wh = true)
  | 0, _ => ⟨true, rfl, fun _ => rfl⟩
  | k + 1, hk => by
    obtain ⟨wh, h1, h2⟩ := h.fold k (by omega)
    have hwh := h2 (by omega)
    subst hwh
    have hz := h.ok.size
    have hl := h.lastLen (by omega)
    have hsz := h.size
    have hfull : k * R.size ≤ (R.cnt - 1) * R.size := Nat.mul_le_mul_right _ (by omega)
    have hmod : (R.start + k * R.size) % R.size = 0 := by rw [Nat.add_mul_mod_self_right]; exact h.ok.mod
    have hlen : D.len (nameB R.head (R.start + k * R.size)) = min R.size (b.length - k * R.size) := by
      rw [len_bytes (h.segs k (by omega)), bA_size, seg_length]
    have hfol : k = 0 ∨ R.start + k * R.size = if k = 0 then 0 else min (R.start + k * R.size) R.fin := by
      rcases Nat.eq_zero_or_pos k with h0 | h0
      · exact .inl h0
      · rw [if_neg (by omega)]; right; omega
    rw [plc_snoc, List.foldl_append, h1, List.foldl_cons, List.foldl_nil]
    unfold findStep
    rw [hlen, if_neg (by omega), if_neg (by
      intro hc
      rcases hc with hc | hc | hc
      · cases hc
      · exact hc hfol
      · omega)]
    refine ⟨decide (min R.size (b.length - k * R.size) = R.size), ?_, fun hlt => ?_⟩
    · rw [FoundS.mk.injEq]
      refine ⟨?_, rfl, ?_, rfl, rfl⟩
      · show (if k = 0 then R.start + k * R.size else if k = 0 then 0 else R.start) = if k + 1 = 0 then 0 else R.start
        rw [if_neg (show ¬ k + 1 = 0 by omega)]
        by_cases h0 : k = 0
        · subst h0; simp
        · rw [if_neg h0, if_neg h0]
      · show R.start + k * R.size + min R.size (b.length - k * R.size) = if k + 1 = 0 then 0 else min (R.start + (k + 1) * R.size) R.fin
        rw [if_neg (show ¬ k + 1 = 0 by omega), Nat.succ_mul]; omega
    · have := plc_lt (size := R.size) (show k < R.cnt - 1 by omega)
      rw [decide_eq_true_eq]; omega
theorem Holds.found (h : Holds D R b) (hF : dk.Form D) : ∃ wh, foundD D R.head R.size = ⟨R.start, R.cnt, R.fin, wh, []⟩ := by
  obtain ⟨wh, h1, _⟩ := h.fold R.cnt (Nat.le_refl _)
  refine ⟨wh, ?_⟩
  rw [found_places, h.placesEq hF]
  unfold RowS.places
  rw [h1]
  by_cases h0 : R.cnt = 0
  · obtain ⟨e1, e2⟩ := h.ok.none h0
    rw [if_pos h0, if_pos h0, e1, e2]
  · have := (h.ok.fin (by omega)).2
    have hst : R.stop = R.start + R.cnt * R.size := rfl
    rw [if_neg h0, if_neg h0, Nat.min_eq_right (by omega)]
/-- A row, opened anew. -/
def RowS.anew (R : RowS) : RowS := { R with synced := R.start }
theorem Holds.anew (h : Holds D R b) : Holds D R.anew b :=
  ⟨⟨h.ok.size, h.ok.head, h.ok.none, h.ok.fin, h.ok.least, h.ok.mod, by have := h.ok.le; show R.start ≤ _; omega⟩, h.size, h.segs, h.only⟩
theorem Holds.open (h : Holds D R b) (ha : Alive D) (hF : dk.Form D) : openD D R.head R.size = (0, D, R.anew) := by
  obtain ⟨wh, h1⟩ := h.found hF
  have hz := h.ok.size
  unfold openD
  rw [if_neg (by omega), if_neg (by rw [ha.down]; decide), Int.toNat_natCast, h1, if_pos rfl]
  rfl
/-- A row of a head of which nothing is there. -/
theorem Holds.none (hs : 16 ≤ size ∧ size ≤ 4096) (hh : head.size ≤ 1000000) (hno : ∀ k, k < 100000000 → D.has (nameB head k) = false) : Holds D ⟨head, size, 0, 0, 0, 0⟩ [] :=
  ⟨⟨hs, hh, fun _ => ⟨rfl, rfl⟩, fun h => absurd h (Nat.lt_irrefl 0), fun h => absurd h (Nat.lt_irrefl 0), Nat.zero_mod _, Nat.zero_le _⟩, rfl, fun i hi => absurd hi (Nat.not_lt_zero _), fun k hk hh => by rw [hno k hk] at hh; cases hh⟩
theorem Holds.names (h : Holds D R b) (hF : dk.Form D) (sole : ∀ n, D.has n = true → ∃ k, k < 100000000 ∧ n = nameB R.head k) : D.names R.head = R.places.map (nameB R.head) := by
  rw [← h.placesEq hF]
  unfold placesL
  rw [List.map_filterMap]
  have : ∀ l : List ByteArray, (∀ n ∈ l, D.has n = true) → l.filterMap (fun n => (placeOf R.head n).map (nameB R.head)) = l := by
    intro l
    induction l with
    | nil => exact fun _ => rfl
    | cons n l ih =>
      intro hl
      obtain ⟨k, hk, rfl⟩ := sole n (hl n (List.mem_cons_self ..))
      rw [List.filterMap_cons, place_name _ hk]
      simp only [Option.map_some]
      rw [ih (fun x hx => hl x (List.mem_cons_of_mem _ hx))]
  exact (this _ (fun n hn => (mem_names.1 hn).1)).symm
/-- Rows of unlike heads: what one does leaves the other's. -/
theorem heads_apart {h1 h2 : ByteArray} (hne : h1 ≠ h2) {k j : Nat} : nameB h1 k ≠ nameB h2 j := fun e => by
  have e1 := congrArg (fun n : ByteArray => n.data.toList) e
  have e2 : h1.data.toList ++ dL 8 k = h2.data.toList ++ dL 8 j := e1
  have hl := congrArg List.length e2
  rw [List.length_append, List.length_append, dL_length, dL_length] at hl
  exact hne (ba_ext (List.append_inj_left e2 (by omega)))
theorem Holds.other (h : Holds D R b) {hd : ByteArray} (ho : Only D E hd) (hne : R.head ≠ hd) : Holds E R b :=
  ⟨h.ok, h.size, fun i hi => (ho _ (fun _ _ => heads_apart hne)).trans (h.segs i hi), fun k hk hh => h.only k hk (by rw [bytes_has] at hh ⊢; rwa [ho _ (fun _ _ => heads_apart hne)] at hh)⟩
theorem RowOk.roomMod (h : RowOk R) : R.room = R.size - R.fin % R.size := by
  have hz := h.size
  unfold RowS.room
  rcases Nat.eq_zero_or_pos R.cnt with h0 | h0
  · rw [if_neg (fun e => by omega), (h.none h0).2, Nat.zero_mod]; omega
  · have h1 := h.fin h0
    have h2 := RowOk.stop (R := R) h0
    have hm : R.lastp % R.size = 0 := by unfold RowS.lastp; rw [Nat.add_mul_mod_self_right]; exact h.mod
    by_cases h3 : R.fin < R.stop
    · rw [if_pos ⟨h0, h3⟩]
      have e : R.fin = R.lastp + (R.fin - R.lastp) := by omega
      have : R.fin % R.size = R.fin - R.lastp := by
        rw [e, Nat.add_mod, hm, Nat.zero_add, Nat.mod_mod, Nat.mod_eq_of_lt (by omega)]; omega
      omega
    · rw [if_neg (fun e => h3 e.2)]
      have e : R.fin = R.lastp + R.size := by omega
      have : R.fin % R.size = 0 := by rw [e, Nat.add_mod_right]; exact hm
      omega
end
end Go.Proofs.YtafdfmdcnniccaaGreatDoor.sg

/- Layer 5, plain laws: what a row is, opened over any files of its head. -/
namespace Go.Proofs.YtafdfmdcnniccaaGreatDoor.sg
open Go.Proofs.YtafdfmdcnniccaaGreatDoor.dk

/-- What is found of files, told by what their lengths are. -/
structure Fit (f : Nat → Option Nat) (size st cnt fin : Nat) : Prop where
  none : cnt = 0 → st = 0 ∧ fin = 0 ∧ ∀ k n, f k = some n → k % size = 0 → size < n
  mod : st % size = 0
  least : 0 < cnt → ∀ k n, f k = some n → k % size = 0 → n ≤ size → st ≤ k
  full : ∀ i, i + 1 < cnt → f (st + i * size) = some size
  last : 0 < cnt → ∃ n, f (st + (cnt - 1) * size) = some n ∧ n ≤ size ∧ fin = st + (cnt - 1) * size + n ∧ (n < size ∨ ∀ q, f (st + cnt * size) = some q → size < q)
section
variable {f : Nat → Option Nat} {size st cnt fin st2 cnt2 fin2 : Nat}
theorem Fit.good (h : Fit f size st cnt fin) (h0 : 0 < cnt) : ∃ n, f st = some n ∧ n ≤ size := by
  by_cases h1 : 1 < cnt
  · have := h.full 0 (by omega)
    rw [Nat.zero_mul, Nat.add_zero] at this
    exact ⟨size, this, Nat.le_refl _⟩
  · obtain ⟨n, h2, h3, _⟩ := h.last h0
    obtain rfl : cnt = 1 := by omega
    simp at h2
    exact ⟨n, h2, h3⟩
theorem Fit.le (h : Fit f size st cnt fin) (k : Fit f size st cnt2 fin2) (h0 : 0 < cnt) (h2 : 0 < cnt2) : cnt ≤ cnt2 := by
  by_cases hc : cnt ≤ cnt2
  · exact hc
  · exfalso
    obtain ⟨n, k1, k2, k3, k4⟩ := k.last h2
    have h1 := h.full (cnt2 - 1) (by omega)
    rw [h1] at k1
    cases k1
    rcases k4 with k4 | k4
    · omega
    · by_cases h5 : cnt2 + 1 < cnt
      · have := k4 _ (h.full cnt2 h5); omega
      · obtain ⟨q, q1, q2, _⟩ := h.last h0
        obtain rfl : cnt = cnt2 + 1 := by omega
        rw [Nat.add_sub_cancel] at q1
        have := k4 _ q1
        omega
/-- .. there is just one. -/
theorem Fit.one (h : Fit f size st cnt fin) (k : Fit f size st2 cnt2 fin2) : st = st2 ∧ cnt = cnt2 ∧ fin = fin2 := by
  by_cases h0 : cnt = 0
  · by_cases h2 : cnt2 = 0
    · obtain ⟨a1, a2, _⟩ := h.none h0
      obtain ⟨b1, b2, _⟩ := k.none h2
      omega
    · obtain ⟨n, n1, n2⟩ := k.good (by omega)
      have := (h.none h0).2.2 _ _ n1 k.mod
      omega
  · by_cases h2 : cnt2 = 0
    · obtain ⟨n, n1, n2⟩ := h.good (by omega)
      have := (k.none h2).2.2 _ _ n1 h.mod
      omega
    · obtain ⟨n, n1, n2⟩ := h.good (by omega)
      obtain ⟨m, m1, m2⟩ := k.good (by omega)
      have e1 := h.least (by omega) _ _ m1 k.mod m2
      have e2 := k.least (by omega) _ _ n1 h.mod n2
      obtain rfl : st = st2 := by omega
      have e3 := h.le k (by omega) (by omega)
      have e4 := k.le h (by omega) (by omega)
      obtain rfl : cnt = cnt2 := by omega
      obtain ⟨q, q1, q2, q3, _⟩ := h.last (by omega)
      obtain ⟨r, r1, r2, r3, _⟩ := k.last (by omega)
      rw [q1] at r1
      cases r1
      exact ⟨rfl, rfl, q3.trans r3.symm⟩
/-- What stands while files are looked at, in rising order. -/
structure Fi (len : Nat → Nat) (size : Nat) (ks l1 : List Nat) (x : FoundS) : Prop where
  count : x.others.length + x.cnt = l1.length
  none : x.cnt = 0 → x.start = 0 ∧ x.fin = 0 ∧ x.whole = true ∧ ∀ k ∈ l1, k % size = 0 → size < len k
  mod : x.start % size = 0
  least : 0 < x.cnt → ∀ k ∈ l1, k % size = 0 → len k ≤ size → x.start ≤ k
  full : ∀ i, i + 1 < x.cnt → x.start + i * size ∈ l1 ∧ len (x.start + i * size) = size
  last : 0 < x.cnt → x.start ∈ l1 ∧ x.start + (x.cnt - 1) * size ∈ l1 ∧ len (x.start + (x.cnt - 1) * size) ≤ size ∧ x.fin = x.start + (x.cnt - 1) * size + len (x.start + (x.cnt - 1) * size)
  wh : 0 < x.cnt → x.whole = true → x.fin = x.start + x.cnt * size ∧ ¬ x.fin ∈ l1
  no : 0 < x.cnt → x.whole = false → len (x.start + (x.cnt - 1) * size) < size ∨ (x.start + x.cnt * size ∈ ks → size < len (x.start + x.cnt * size))
theorem Fi.step {len : Nat → Nat} {ks l1 l2 : List Nat} {k : Nat} {x : FoundS} (hs : 0 < size) (h : Fi len size ks l1 x) (hk : ks = l1 ++ k :: l2) (hp : ks.Pairwise (· < ·)) (n : ByteArray) : Fi len size ks (l1 ++ [k]) (findStep size x n k (len k)) := by
  have hlt : ∀ j ∈ l1, j < k := fun j hj => by
    rw [hk, List.pairwise_append] at hp
    exact hp.2.2 j hj k (List.mem_cons_self ..)
  have hgt : ∀ j ∈ l2, k < j := fun j hj => by
    rw [hk, List.pairwise_append, List.pairwise_cons] at hp
    exact hp.2.1.1 j hj
  have hmem : ∀ {j}, j ∈ l1 → j ∈ l1 ++ [k] := fun h => List.mem_append_left _ h
  have hcase : ∀ {j}, j ∈ l1 ++ [k] → j ∈ l1 ∨ j = k := fun h => by
    rcases List.mem_append.1 h with h | h
    · exact .inl h
    · exact .inr (List.mem_singleton.1 h)
  unfold findStep
  split
  · rename_i hm
    refine ⟨by simp only [List.length_append, List.length_cons, List.length_nil]; have := h.count; omega, fun e => ?_, h.mod, fun e j hj h1 h2 => ?_, fun i hi => ⟨hmem (h.full i hi).1, (h.full i hi).2⟩, fun e => ?_, fun e w => ?_, h.no⟩
    · obtain ⟨a1, a2, a3, a4⟩ := h.none e
      refine ⟨a1, a2, a3, fun j hj h1 => ?_⟩
      rcases hcase hj with hj | rfl
      · exact a4 j hj h1
      · exact absurd h1 hm
    · rcases hcase hj with hj | rfl
      · exact h.least e j hj h1 h2
      · exact absurd h1 hm
    · obtain ⟨a1, a2, a3⟩ := h.last e
      exact ⟨hmem a1, hmem a2, a3⟩
    · obtain ⟨a1, a2⟩ := h.wh e w
      refine ⟨a1, fun hj => ?_⟩
      rcases hcase hj with hj | hj
      · exact a2 hj
      · refine hm ?_
        have hj' : x.fin = k := hj
        rw [← hj', a1, Nat.add_mul_mod_self_right]; exact h.mod
  rename_i hm
  have hm : k % size = 0 := by omega
  split
  · rename_i hc
    refine ⟨by simp only [List.length_append, List.length_cons, List.length_nil]; have := h.count; omega, fun e => ?_, h.mod, fun e j hj h1 h2 => ?_, fun i hi => ⟨hmem (h.full i hi).1, (h.full i hi).2⟩, fun e => ?_, fun e w => ?_, fun e w => ?_⟩
    · have e' : x.cnt = 0 := e
      obtain ⟨a1, a2, a3, a4⟩ := h.none e'
      refine ⟨a1, a2, by show (x.whole && decide (x.cnt = 0)) = true; rw [a3, e']; rfl, fun j hj h1 => ?_⟩
      rcases hcase hj with hj | rfl
      · exact a4 j hj h1
      · rcases hc with hc | hc | hc
        · rw [a3] at hc; cases hc
        · exact absurd (.inl e') hc
        · exact hc
    · rcases hcase hj with hj | rfl
      · exact h.least e j hj h1 h2
      · have := hlt _ (h.last e).1
        show x.start ≤ _
        omega
    · obtain ⟨a1, a2, a3⟩ := h.last e
      exact ⟨hmem a1, hmem a2, a3⟩
    · have w' : (x.whole && decide (x.cnt = 0)) = true := w
      rw [Bool.and_eq_true, decide_eq_true_eq] at w'
      have e' : 0 < x.cnt := e
      omega
    · have e' : 0 < x.cnt := e
      show len (x.start + (x.cnt - 1) * size) < size ∨ (x.start + x.cnt * size ∈ ks → size < len (x.start + x.cnt * size))
      cases hw : x.whole with
      | false => exact h.no e' hw
      | true =>
        obtain ⟨a1, a2⟩ := h.wh e' hw
        right
        rw [← a1]
        intro hin
        by_cases hkf : k = x.fin
        · rcases hc with hc | hc | hc
          · rw [hw] at hc; cases hc
          · exact absurd (.inr hkf) hc
          · rw [← hkf]; exact hc
        · exfalso
          obtain ⟨b1, b2, b3, b4⟩ := h.last e'
          have hl := hlt _ b2
          -- k is no less than fin
          have hmod := h.mod
          obtain ⟨s0, hs0⟩ : ∃ s0, x.start = s0 * size := ⟨x.start / size, (Nat.div_mul_cancel (Nat.dvd_of_mod_eq_zero hmod)).symm⟩
          obtain ⟨k0, hk0⟩ : ∃ k0, k = k0 * size := ⟨k / size, (Nat.div_mul_cancel (Nat.dvd_of_mod_eq_zero hm)).symm⟩
          rw [hs0, hk0, ← Nat.add_mul] at hl
          have h3 : s0 + (x.cnt - 1) < k0 := Nat.lt_of_mul_lt_mul_right hl
          have h4 : (s0 + x.cnt) * size ≤ k0 * size := Nat.mul_le_mul_right _ (by omega)
          rw [Nat.add_mul, ← hs0, ← hk0, ← a1] at h4
          rw [hk] at hin
          rcases List.mem_append.1 hin with hin | hin
          · exact a2 hin
          · rcases List.mem_cons.1 hin with hin | hin
            · exact hkf hin.symm
            · have := hgt _ hin; omega
  · rename_i hc
    have hw : x.whole = true := by
      cases hx : x.whole
      · exact absurd (Or.inl hx) hc
      · rfl
    have hl : len k ≤ size := by
      by_cases h1 : size < len k
      · exact absurd (Or.inr (Or.inr h1)) hc
      · omega
    have hf : x.cnt = 0 ∨ k = x.fin := by
      by_cases h1 : x.cnt = 0 ∨ k = x.fin
      · exact h1
      · exact absurd (Or.inr (Or.inl h1)) hc
    by_cases h0 : x.cnt = 0
    · obtain ⟨a1, a2, a3, a4⟩ := h.none h0
      have hcount := h.count
      rw [if_pos h0, h0]
      refine ⟨by simp only [List.length_append, List.length_cons, List.length_nil]; omega, fun e => (by cases e), hm, fun _ j hj h1 h2 => ?_, fun i hi => ?_, fun _ => ?_, fun _ w => ?_, fun _ w => ?_⟩
      · rcases hcase hj with hj | rfl
        · have := a4 j hj h1; omega
        · exact Nat.le_refl _
      · have hi : i + 1 < 0 + 1 := hi
        omega
      · have e1 : k + (0 + 1 - 1) * size = k := by simp
        show k ∈ _ ∧ k + (0 + 1 - 1) * size ∈ _ ∧ len (k + (0 + 1 - 1) * size) ≤ size ∧ k + len k = k + (0 + 1 - 1) * size + len (k + (0 + 1 - 1) * size)
        rw [e1]
        exact ⟨by simp, by simp, hl, rfl⟩
      · have w' : decide (len k = size) = true := w
        rw [decide_eq_true_eq] at w'
        show k + len k = k + (0 + 1) * size ∧ ¬ k + len k ∈ _
        refine ⟨by rw [w']; simp, fun hj => ?_⟩
        rcases hcase hj with hj | hj
        · have := hlt _ hj; omega
        · omega
      · have w' : decide (len k = size) = false := w
        rw [decide_eq_false_iff_not] at w'
        left
        show len (k + (0 + 1 - 1) * size) < size
        have e1 : k + (0 + 1 - 1) * size = k := by simp
        rw [e1]; omega
    · have hkf := hf.resolve_left h0
      obtain ⟨a1, a2⟩ := h.wh (by omega) hw
      obtain ⟨b1, b2, b3, b4⟩ := h.last (by omega)
      have hcount := h.count
      have hk' : x.start + x.cnt * size = k := by rw [← a1]; exact hkf.symm
      have e1 : x.start + (x.cnt + 1 - 1) * size = k := by rw [Nat.add_sub_cancel]; exact hk'
      rw [if_neg h0]
      refine ⟨by simp only [List.length_append, List.length_cons, List.length_nil]; omega, fun e => (by cases e), h.mod, fun _ j hj h1 h2 => ?_, fun i hi => ?_, fun _ => ?_, fun _ w => ?_, fun _ w => ?_⟩
      · rcases hcase hj with hj | rfl
        · exact h.least (by omega) j hj h1 h2
        · have := hlt _ b1
          show x.start ≤ _
          omega
      · have hi : i + 1 < x.cnt + 1 := hi
        show x.start + i * size ∈ _ ∧ len (x.start + i * size) = size
        by_cases he : i + 1 < x.cnt
        · exact ⟨hmem (h.full i he).1, (h.full i he).2⟩
        · obtain rfl : i = x.cnt - 1 := by omega
          refine ⟨hmem b2, ?_⟩
          have e2 : x.cnt * size = (x.cnt - 1) * size + size := by
            obtain ⟨c, hcc⟩ : ∃ c, x.cnt = c + 1 := ⟨x.cnt - 1, by omega⟩
            rw [hcc, Nat.succ_mul, Nat.add_sub_cancel]
          omega
      · show x.start ∈ _ ∧ x.start + (x.cnt + 1 - 1) * size ∈ _ ∧ len (x.start + (x.cnt + 1 - 1) * size) ≤ size ∧ k + len k = x.start + (x.cnt + 1 - 1) * size + len (x.start + (x.cnt + 1 - 1) * size)
        rw [e1]
        exact ⟨hmem b1, by simp, hl, rfl⟩
      · have w' : decide (len k = size) = true := w
        rw [decide_eq_true_eq] at w'
        show k + len k = x.start + (x.cnt + 1) * size ∧ ¬ k + len k ∈ _
        refine ⟨by rw [Nat.succ_mul, w']; omega, fun hj => ?_⟩
        rcases hcase hj with hj | hj
        · have := hlt _ hj; omega
        · omega
      · have w' : decide (len k = size) = false := w
        rw [decide_eq_false_iff_not] at w'
        left
        show len (x.start + (x.cnt + 1 - 1) * size) < size
        rw [e1]; omega
theorem Fi.all {len : Nat → Nat} {ks : List Nat} (hs : 0 < size) (hp : ks.Pairwise (· < ·)) (nm : Nat → ByteArray) : ∀ (l2 l1 : List Nat) (x : FoundS), ks = l1 ++ l2 → Fi len size ks l1 x → Fi len size ks ks (l2.foldl (fun x k => findStep size x (nm k) k (len k)) x)
  | [], l1, x, hk, h => by rw [List.append_nil] at hk; subst hk; exact h
  | k :: l2, l1, x, hk, h => by
    rw [List.foldl_cons]
    exact Fi.all hs hp nm l2 (l1 ++ [k]) _ (by rw [hk, List.append_assoc]; rfl) (h.step hs hk hp (nm k))
/-- What is found fits. -/
theorem found_fit {D : DiskS} {head : ByteArray} (hF : dk.Form D) (hs : 0 < size) (hf : ∀ k, f k = if k ∈ placesL D head then some (D.len (nameB head k)) else none) :
    Fit f size (foundD D head size).start (foundD D head size).cnt (foundD D head size).fin ∧ (foundD D head size).others.length + (foundD D head size).cnt = (placesL D head).length := by
  have h := Fi.all (len := fun k => D.len (nameB head k)) hs (places_rise hF head) (nameB head) (placesL D head) [] ⟨0, 0, 0, true, []⟩ rfl ⟨rfl, fun _ => ⟨rfl, rfl, rfl, fun k hk => by cases hk⟩, Nat.zero_mod _, fun h => absurd h (Nat.lt_irrefl 0), fun i hi => absurd hi (Nat.not_lt_zero _), fun h => absurd h (Nat.lt_irrefl 0), fun h => absurd h (Nat.lt_irrefl 0), fun h => absurd h (Nat.lt_irrefl 0)⟩
  rw [← found_places] at h
  have hsome : ∀ {k n}, f k = some n → k ∈ placesL D head ∧ n = D.len (nameB head k) := fun {k n} e => by
    rw [hf] at e
    split at e
    · rename_i hk
      exact ⟨hk, by simpa using e.symm⟩
    · cases e
  have hin : ∀ {k}, k ∈ placesL D head → f k = some (D.len (nameB head k)) := fun {k} hk => by rw [hf, if_pos hk]
  refine ⟨⟨fun e => ?_, h.mod, fun e k n hk h1 h2 => ?_, fun i hi => ?_, fun e => ?_⟩, h.count⟩
  · obtain ⟨a1, a2, a3, a4⟩ := h.none e
    refine ⟨a1, a2, fun k n hk hm => ?_⟩
    obtain ⟨b1, rfl⟩ := hsome hk
    exact a4 k b1 hm
  · obtain ⟨b1, rfl⟩ := hsome hk
    exact h.least e k b1 h1 h2
  · obtain ⟨b1, b2⟩ := h.full i hi
    rw [hin b1, b2]
  · obtain ⟨a1, a2, a3, a4⟩ := h.last e
    refine ⟨_, hin a2, a3, a4, ?_⟩
    cases hw : (foundD D head size).whole with
    | true =>
      obtain ⟨b1, b2⟩ := h.wh e hw
      right
      intro q hq
      rw [← b1] at hq
      exact absurd (hsome hq).1 b2
    | false =>
      rcases h.no e hw with h1 | h1
      · exact .inl h1
      · right
        intro q hq
        obtain ⟨c1, rfl⟩ := hsome hq
        exact h1 c1
end
end Go.Proofs.YtafdfmdcnniccaaGreatDoor.sg

/- Layer 5: what stands while a disk's files are looked at. -/
namespace Go.Proofs.YtafdfmdcnniccaaGreatDoor.sg
open Go.ChangeShapes Go.WideShapes Go.ChangeAt Go.RowKit
open Go.Proofs.YtafdfmdcnniccaaGreatDoor.dk

section
variable {W w w' w1 : World} {r p n : Nat} {R R' R1 : RowS} {v v' v1 nv : Value} {D D' : DiskS} {F F' : Nat → Prop}
set_option maxHeartbeats 1000000 in
theorem Len_any (s : ByteArray) (w : World) (h : DiskAt w p D F) : Calls Tryz.prog 82 #[ptrTo p, .string s] w fun e w' => e = .returned (.int .i64 (D.len s : Int)) ∧ w = w' := by
  obtain ⟨mb, wv, h, rfl⟩ := h
  obtain ⟨c0, c1, c2, c3, c4⟩ := h.cells
  have hlt := heap_lt h.obj
  have hlook := h.look s
  unfold DiskS.len
  cases hf : D.find s with
  | none =>
    rw [ptr_none hf] at hlook
    clear h hf
    go_enter Tryz.func82, Tryz.ntmps82
    go_wp2_with fail
    go_ret
    exact ⟨rfl, rfl⟩
  | some f =>
    rw [ptr_some hf] at hlook
    obtain ⟨d0, d1, d2, d3⟩ := h.file hf
    have hfl := heap_lt (h.files f (find_some hf).1)
    clear h hf
    go_enter Tryz.func82, Tryz.ntmps82
    go_wp2_with fail
    go_ret
    exact ⟨rfl, rfl⟩
/-- A text is appended onto a row of one's own: in place, or in a new block. -/
theorem append_name2 (w : World) (v : Value) (l : List ByteArray) (x : ByteArray) (g0 : Nat) (h : w.ownsRow 0 9 1 v l.length (l.map Value.string)) (hb : w.heap[g0]? = some (.cells #[.string x] 9 (0, 0))) (hl : l.length ≤ 100000000) (ty : TypeId) :
    ∃ v' w', (Builtin.append_ #[24, 24] ty #[v, .slice (some ⟨g0, 0, none⟩) 1 1]).run Tryz.prog w = .ok v' w' ∧ w'.ownsRow 0 9 1 v' (l ++ [x]).length ((l ++ [x]).map Value.string) ∧ Keeps (fun g => v.ownBlock = some g) w w' ∧ ∀ g, v'.ownBlock = some g → v.ownBlock = some g ∨ w.heap.size ≤ g := by
  obtain ⟨i0, hi, hz0, hz1, hz2⟩ := info_parts infoStr
  obtain ⟨v', w', h1, h2, h3, h4⟩ := append_own (P := Tryz.prog) w 24 ty 9 i0 _ 1 16 Tryz.underlying24 hi hz0 hz1 hz2 (by kernel_rfl) (by decide) v l.length _ h ⟨g0, 0, none⟩ 1 1 (by decide) [.string x] rfl (fun j u hj => by
      rw [add_lit, cell_of hb]
      match j, hj with
      | 0, hj => exact hj
      | k + 1, hj => simp at hj) (fun u hu => by
      rcases List.mem_cons.1 hu with rfl | hu
      · rfl
      cases hu) (by simp only [maxLen]; omega) (by omega)
  refine ⟨v', w', h1, ?_, h3, fun g hg => ?_⟩
  · rw [List.length_append, List.map_append]; exact h2
  · rcases h4 with h4 | h4
    · exact .inl (h4.symm.trans hg)
    · rw [h4] at hg; cases hg; exact .inr (Nat.le_refl _)
def FoundS.row0 (x : FoundS) (head : ByteArray) (size : Nat) : RowS := ⟨head, size, x.start, x.cnt, x.fin, 0⟩
theorem FoundOk.row0 {size : Nat} {x : FoundS} (h : FoundOk size x) (hs : 16 ≤ size ∧ size ≤ 4096) (head : ByteArray) (hh : head.size ≤ 1000000) : RowOk (x.row0 head size) :=
  ⟨hs, hh, fun e => ⟨(h.none e).1, (h.none e).2.1⟩, fun e => h.fin e, fun e => h.least e, h.mod, Nat.zero_le _⟩
/-- What stands while a disk's files are looked at: w1 is the world behind List. -/
structure FdS (W w1 : World) (r p n : Nat) (D : DiskS) (head : ByteArray) (size : Nat) (F : Nat → Prop) (x : FoundS) (v nv : Value) (w : World) : Prop where
  seg : SegAt W w r p n D (x.row0 head size) F v
  keep : Keeps (fun b => b = r ∨ w1.heap.size ≤ b) w1 w
  vW : ∀ g, v.ownBlock = some g → w1.heap.size ≤ g
  oth : w.ownsRow 0 9 1 nv x.others.length (x.others.map Value.string)
  nW : ∀ g, nv.ownBlock = some g → w1.heap.size ≤ g
variable {head : ByteArray} {size : Nat} {x : FoundS}
theorem FdS.calm (h : FdS W w1 r p n D head size F x v nv w) (hc : Calm w w') : FdS W w1 r p n D head size F x v nv w' :=
  ⟨h.seg.drew hc, h.keep.calm hc, h.vW, own_calm h.oth hc, h.nW⟩
theorem RowAt.keep {G : Nat → Prop} (h : RowAt w r p R v) (k : Keeps G w w') (hr : ¬ G r) (hv : ∀ g, v.ownBlock = some g → ¬ G g) : RowAt w' r p R v :=
  ⟨(k.block r (heap_lt h.at_) hr).trans h.at_, row_same h.row (fun g hg => k.block g (h.row.lt g hg).2 (hv g hg)), h.ok⟩
/-- Unlike rows lie in unlike blocks. -/
theorem rows_apart {n m : Nat} {xs ys : List Value} (h : w.ownsRow 0 3 1 v n xs) (k : w.ownsRow 0 9 1 nv m ys) {g : Nat} (hg : v.ownBlock = some g) : nv.ownBlock ≠ some g := fun e => by
  obtain ⟨c1, h1⟩ := own_row h hg
  obtain ⟨c2, h2⟩ := own_row k e
  rw [h1] at h2; simp only [Option.some.injEq, Obj.cells.injEq] at h2; exact absurd h2.2.1 (by decide)
/-- One more that isn't the row's. -/
theorem FdS.other {nv' : Value} (h : FdS W w1 r p n D head size F x v nv w) (hFw : ∀ b, F b → b < w1.heap.size) (hrw : r < w1.heap.size) (s : ByteArray) (b : Bool) (k : Keeps (fun g => nv.ownBlock = some g) w w') (hrow : w'.ownsRow 0 9 1 nv' (x.others ++ [s]).length ((x.others ++ [s]).map Value.string)) (hg : ∀ g, nv'.ownBlock = some g → nv.ownBlock = some g ∨ w.heap.size ≤ g) :
    FdS W w1 r p n D head size F { x with others := x.others ++ [s], whole := b } v nv' w' := by
  have hr : nv.ownBlock ≠ some r := fun e => by have := h.nW r e; omega
  refine ⟨⟨h.seg.disk.keep k (fun b hb e => by have := hFw b hb; have := h.nW b e; omega), h.seg.row.keep k hr (fun g hg => rows_apart h.seg.row.row h.oth hg), h.seg.tab, ?_, h.seg.fW, h.seg.rW, h.seg.vW⟩, h.keep.trans' ?_, h.vW, hrow, fun g e => ?_⟩
  · have hW : W.heap.size ≤ w1.heap.size := Nat.le_trans h.seg.rW (Nat.le_of_lt hrw)
    exact Below.trans h.seg.calm (k.below h.seg.calm.size (fun b e => Nat.le_trans hW (h.nW b e)))
  · exact ⟨k.os, k.tape, k.output, by have := k.size; have := h.keep.size; omega, fun i hi hn => k.block i (by have := h.keep.size; omega) (fun e => hn (.inr (h.nW i e)))⟩
  · rcases hg g e with h1 | h1
    · exact h.nW g h1
    · exact Nat.le_trans h.keep.size h1
end
end Go.Proofs.YtafdfmdcnniccaaGreatDoor.sg
