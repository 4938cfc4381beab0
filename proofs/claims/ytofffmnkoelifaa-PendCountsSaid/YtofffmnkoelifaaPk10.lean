/- Layer 17: those that aren't pending are struck out of a row. -/
import Derived.Test.YtofffmnkoelifaaRows
import Derived.WalkKit
import Derived.ProofKit
import Derived.OpenShut
import Derived.Handy
import Derived.Deep.LoopGhost
import Derived.Lib.Hide
import Derived.Lib.Strings
import Derived.SizedLaws
import Derived.Maps.Own
import Derived.Maps.OwnOps
import Derived.Maps.OwnSet
import Derived.Maps.RangeWalk
import Derived.Deep.Slices
import Derived.Laws.StructEq
import Derived.Deep.RegionHeld3
import Derived.Shelf.Strings.Builder1
import Derived.Shelf.Strings.Builder2
import Derived.Shelf.Small.Bits
import Derived.Shelf.Small.Wraps
import Derived.Shelf.Strings.BuilderF
import Derived.Shelf.Strings.BuilderK
import Derived.Shelf.Strings.Builder2Cap
import Derived.Shelf.Strconv.Itoa0
import Derived.Shelf.Sort.Plain
import Derived.Shelf.GgClosure.StringsIndexFunc
import Derived.Ground.GgwProg
import Derived.Shelf.GgClosure.StringsIndexFuncTop
import Derived.Shelf.GgClosure.StringsRunes
import Derived.Shelf.Strings.Prefix
import Derived.Shelf.Bits.Mul64
import Derived.Shelf.Strings.Repeat
import Derived.Shelf.Strings.BuilderCap
import Derived.Shelf.Slices.Equal
import Derived.Ground.Names2Prog
import Derived.Shelf.Slices.Clone
import Derived.Shelf.Slices.CompactS
import Derived.Shelf.Slices.SearchI
import Derived.Shelf.Slices.Cells
import Derived.Shelf.Slices.In.SortNone
import Derived.Shelf.Slices.Empties2
import Derived.Ground.SlgnProg
import Derived.Shelf.SlicesE.Equal
import Derived.Shelf.SlicesE.Compact
import Derived.Ground.SlgfProg
import Derived.Shelf.SlicesE.IndexFunc
import Derived.Shelf.SlicesE.DeleteFunc
import Derived.Test.YtofffmnkoelifaaProg
import Derived.Sort.Statements
import Derived.Lib.ConvBytes
import Derived.Lib.AppendZeros
import Derived.Lib.AppendZerosOnto
import Derived.Lib.LazyBuf
import Derived.Lib.SliceRun
import Derived.Test.YtofffmnkoelifaaPk9
namespace Go.Proofs.Ytofffmnkoelifaa.pd
open Go.ChangeShapes Go.WideShapes Go.ChangeAt Go.RowKit Go.MapKept Go.ChangeMaps Go.Sort Go.Lib
open Go.Proofs.Ytofffmnkoelifaa.rc

/-- A row of numbers in block g. -/
def RowZ (w : World) (g cap : Nat) (L : List Int) : Prop := ∃ c : Array Value, w.heap[g]? = some (.cells c 3 (0, 0)) ∧ c.size = cap ∧ L.length ≤ cap ∧ ∀ i (hi : i < L.length), c[i]? = some (.int .i64 L[i])
abbrev overV (p : Nat) : Value := .func (.func 34) #[.pointer (some ⟨p, 0, none⟩)] #[]
def isOver (S : List OneS) (x : Int) : Bool := stateS S x != 1
def keepI (S : List OneS) (L : List Int) : List Int := L.filter (fun x => !isOver S x)
theorem RowZ.calm {w w' : World} {g cap : Nat} {L : List Int} (h : RowZ w g cap L) (hc : Calm w w') : RowZ w' g cap L := by
  obtain ⟨c, h1, h2⟩ := h; exact ⟨c, heap_calm hc h1, h2⟩
theorem RowZ.cell {w : World} {g cap : Nat} {L : List Int} (h : RowZ w g cap L) (i : Nat) (hi : i < L.length) : w.cell? ⟨g, i, none⟩ = some (.int .i64 L[i]) := by
  obtain ⟨c, h1, _, _, h4⟩ := h
  rw [cell_of h1]; exact h4 i hi
theorem RowZ.lt {w : World} {g cap : Nat} {L : List Int} (h : RowZ w g cap L) : g < w.heap.size := by obtain ⟨c, h1, _⟩ := h; exact heap_lt h1
set_option maxRecDepth 100000 in
set_option maxHeartbeats 2000000 in
/-- The first that isn't pending. -/
theorem IndexOver_any (p mb g cap : Nat) (S : List OneS) (L : List Int) (w : World) (h : SetIn w p mb S) (hr : RowZ w g cap L) (hl : L.length ≤ 1000000) :
    Calls Try.prog 64 #[.slice (some ⟨g, 0, none⟩) L.length cap, overV p] w fun e w' => (∃ k : Nat, e = .returned (.int .i64 k) ∧ ∃ (hk : k < L.length), isOver S L[k] = true ∧ ∀ j (hj : j < k), isOver S (L[j]'(by omega)) = false) ∧ w = w' ∨ (e = .returned (.int .i64 (-1)) ∧ ∀ x ∈ L, isOver S x = false) ∧ w = w' := by
  have ho := box (fun x => over_any p mb S x w h)
  have Hr := box hr
  have hgl := hr.lt
  have hen := enters_of Try.func34 (by kernel_rfl) rfl
  clear h hr
  go_enter Try.func64, Try.ntmps64
  go_wp2_with fail
  go_loopw [8] (fun i wr => wr = w ∧ ∃ k : Nat, k ≤ L.length ∧ i = .int .i64 k ∧ ∀ j (hj : j < k) (hj' : j < L.length), isOver S L[j] = false) (fun i _ => L.length - (intOf i).toNat)
  case atStart => exact ⟨by first | rfl | trivial, 0, Nat.zero_le _, rfl, fun j hj => absurd hj (Nat.not_lt_zero _)⟩
  case round =>
    obtain ⟨rfl, k, hk, rfl, hall⟩ := hrel
    have Ha := box hall
    clear hall
    by_cases hlt : k < L.length
    · have hc := Hr.out.cell k hlt
      have hok := box (ho.out L[k])
      have hnext := box (show isOver S L[k] = false → ∀ j (hj : j < k + 1) (hj' : j < L.length), isOver S L[j] = false from fun h j hj hj' => by
        by_cases e : j = k
        · subst e; exact h
        · exact Ha.out j (by omega) hj')
      have hfound := box (show isOver S L[k] = true → (∃ (hk : k < L.length), isOver S L[k] = true ∧ ∀ j (hj : j < k), isOver S (L[j]'(by omega)) = false) from fun h => ⟨hlt, h, fun j hj => Ha.out j hj (by omega)⟩)
      have hb : isOver S L[k] = (stateS S L[k] != 1) := rfl
      rw [← hb] at hok
      obtain ⟨x, hx⟩ : ∃ x, L[k] = x := ⟨_, rfl⟩
      rw [hx] at hc hok hnext
      obtain ⟨b, hbb⟩ : ∃ b, isOver S x = b := ⟨_, rfl⟩
      rw [hbb] at hok hnext
      cases b
      · clear hb hfound hx hbb
        go_wp2_with fail
        refine hok.out.mono ?_
        rintro e w2 ⟨rfl, rfl⟩
        go_wp2_with fail
        go_roundw
        case rel => exact ⟨by first | rfl | trivial, k + 1, by omega, by go_num, hnext.out (by first | rfl | trivial)⟩
        case measure => simp [intOf]; omega
      · have hf := box (hfound.out (by rw [hx]; exact hbb))
        clear hb hfound hx hbb hnext
        go_wp2_with fail
        refine hok.out.mono ?_
        rintro e w2 ⟨rfl, rfl⟩
        go_wp2_with fail
        go_ret
        exact .inl ⟨⟨k, rfl, hf.out⟩, rfl⟩
    · obtain rfl : k = L.length := by omega
      go_wp2_with fail
      go_ret
      exact .inr ⟨⟨rfl, fun x hx => by
        obtain ⟨j, hj, rfl⟩ := List.mem_iff_getElem.1 hx
        exact Ha.out j hj hj⟩, rfl⟩
theorem heap_setCells (b : Nat) (T : TypeId) : ∀ (vs : List Value) (o : Nat) (w : World) (c : Array Value), w.heap[b]? = some (.cells c T (0, 0)) →
    ∃ c', (w.setCells b o vs).heap[b]? = some (.cells c' T (0, 0)) ∧ c'.size = c.size ∧ ∀ j, j < o → c'[j]? = c[j]?
  | [], o, w, c, h => ⟨c, h, rfl, fun _ _ => rfl⟩
  | v :: r, o, w, c, h => by
    obtain ⟨c', h1, h2, h3⟩ := heap_setCells b T r (o + 1) (w.setCell ⟨b, o, none⟩ v) (c.setIfInBounds o v) (heap_set h o v)
    refine ⟨c', h1, by rw [h2]; simp, fun j hj => ?_⟩
    rw [h3 j (by omega), Array.getElem?_setIfInBounds, if_neg (by omega)]
/-- The row midway: the first cells hold what is kept, those from j on are as they were. -/
structure MidZ (w : World) (g cap : Nat) (L K : List Int) (j : Nat) : Prop where
  blk : ∃ c : Array Value, w.heap[g]? = some (.cells c 3 (0, 0)) ∧ c.size = cap ∧ (∀ i (hi : i < K.length), c[i]? = some (.int .i64 K[i])) ∧ ∀ i (hi : i < L.length), j ≤ i → c[i]? = some (.int .i64 L[i])
  le : L.length ≤ cap
  lt : K.length < j
theorem MidZ.skip {w : World} {g cap : Nat} {L K : List Int} {j : Nat} (h : MidZ w g cap L K j) : MidZ w g cap L K (j + 1) := by
  obtain ⟨⟨c, h1, h2, h3, h4⟩, h5, h6⟩ := h
  exact ⟨⟨c, h1, h2, h3, fun i hi hj => h4 i hi (by omega)⟩, h5, by omega⟩
theorem MidZ.put {w : World} {g cap : Nat} {L K : List Int} {j : Nat} (h : MidZ w g cap L K j) (hj : j < L.length) (x : Int) : MidZ (w.setCell ⟨g, K.length, none⟩ (.int .i64 x)) g cap L (K ++ [x]) (j + 1) := by
  obtain ⟨⟨c, h1, h2, h3, h4⟩, h5, h6⟩ := h
  refine ⟨⟨_, heap_set h1 K.length (.int .i64 x), by simpa using h2, fun i hi => ?_, fun i hi hji => ?_⟩, h5, by simp; omega⟩
  · rw [List.length_append, List.length_singleton] at hi
    rw [Array.getElem?_setIfInBounds]
    by_cases e : K.length = i
    · subst e
      rw [if_pos rfl, if_pos (by omega), List.getElem_append_right (Nat.le_refl _)]
      simp
    · rw [if_neg e, List.getElem_append_left (by omega)]
      exact h3 i (by omega)
  · rw [Array.getElem?_setIfInBounds, if_neg (by omega)]
    exact h4 i hi (by omega)
theorem keepI_step (S : List OneS) (L : List Int) (j : Nat) (hj : j < L.length) : keepI S (L.take (j + 1)) = keepI S (L.take j) ++ (if isOver S L[j] then [] else [L[j]]) := by
  unfold keepI
  rw [List.take_succ_eq_append_getElem hj, List.filter_append]
  cases h : isOver S L[j] <;> simp [h]
theorem keepI_len (S : List OneS) (L : List Int) (j : Nat) : (keepI S (L.take j)).length ≤ j := by
  unfold keepI
  exact Nat.le_trans (List.length_filter_le _ _) (by rw [List.length_take]; omega)
set_option maxRecDepth 100000 in
set_option maxHeartbeats 4000000 in
theorem DeleteOver_any (p mb g cap : Nat) (S : List OneS) (L : List Int) (w : World) (h : SetIn w p mb S) (hr : RowZ w g cap L) (hl : L.length ≤ 1000000) (hgp : g ≠ p) (hgm : g ≠ mb) :
    Calls Try.prog 33 #[.slice (some ⟨g, 0, none⟩) L.length cap, overV p] w fun e w' => e = .returned (.slice (some ⟨g, 0, none⟩) (keepI S L).length cap) ∧ RowZ w' g cap (keepI S L) ∧ Keeps (fun b => b = g) w w' := by
  have hidx := box (IndexOver_any p mb g cap S L w h hr hl)
  have ho := box (fun (W : World) (hk : Keeps (fun b => b = g) w W) (x : Int) => over_any p mb S x W (h.same (hk.block p (heap_lt h.blk) (fun e => hgp e.symm)) (hk.block mb h.map.lt (fun e => hgm e.symm))))
  have Hr := box hr
  have hgl := hr.lt
  have hen := enters_of Try.func34 (by kernel_rfl) rfl
  clear h hr
  go_enter Try.func33, Try.ntmps33
  go_wp2_with fail
  refine hidx.out.mono ?_
  rintro e w2 (⟨⟨k0, rfl, hk0, hov, hall⟩, rfl⟩ | ⟨⟨rfl, hall⟩, rfl⟩)
  · have hk1 : ((k0 : Int) == -1) = false := beq_eq_false_iff_ne.2 (by omega)
    have hkeep : keepI S (L.take (k0 + 1)) = L.take k0 := by
      rw [keepI_step S L k0 hk0, if_pos hov, List.append_nil]
      unfold keepI
      refine List.filter_eq_self.2 (fun x hx => ?_)
      obtain ⟨j, hj, rfl⟩ := List.mem_take_iff_getElem.1 hx
      rw [hall j (by omega)]; rfl
    have Hm := box (show MidZ w g cap L (keepI S (L.take (k0 + 1))) (k0 + 1) from by
      obtain ⟨c, h1, h2, h3, h4⟩ := Hr.out
      refine ⟨⟨c, h1, h2, fun i hi => ?_, fun i hi _ => h4 i hi⟩, h3, by rw [hkeep, List.length_take]; omega⟩
      simp only [hkeep, List.getElem_take]
      simp only [hkeep, List.length_take] at hi
      exact h4 i (by omega))
    have Hlen := box (show (keepI S (L.take (k0 + 1))).length = k0 by rw [hkeep, List.length_take]; omega)
    clear hov hall hkeep
    go_wp2_with fail
    go_loopw [5, 6, 7] (fun s5 s6 _ wr => ∃ j : Nat, j ≤ L.length ∧ s6 = .int .i64 j ∧ s5 = .int .i64 ((keepI S (L.take j)).length : Nat) ∧ MidZ wr g cap L (keepI S (L.take j)) j ∧ Keeps (fun b => b = g) w wr) (fun _ j _ _ => L.length - (intOf j).toNat)
    case atStart => exact ⟨k0 + 1, by omega, by go_num, by rw [Hlen.out], Hm.out, Keeps.refl _ _⟩
    case round =>
      obtain ⟨j, hj, rfl, rfl, hmid, hkp⟩ := hrel
      have HM := box hmid
      have HK := box hkp
      have hgl2 : g < wr.heap.size := Nat.lt_of_lt_of_le hgl hkp.size
      have hkl := keepI_len S L j
      clear hmid hkp
      by_cases hlt : j < L.length
      · have hst := box (keepI_step S L j hlt)
        have hput := box (HM.out.put hlt L[j])
        have hok := box (ho.out wr HK.out L[j])
        have hc : wr.cell? ⟨g, j, none⟩ = some (.int .i64 L[j]) := by
          obtain ⟨c, h1, _, _, h4⟩ := HM.out.blk
          rw [cell_of h1]; exact h4 j hlt (Nat.le_refl _)
        have hfr : wr.frozen? ⟨g, (keepI S (L.take j)).length, none⟩ = false := by
          obtain ⟨c, h1, _⟩ := HM.out.blk
          exact free_of h1 _
        have hci : ∃ v, wr.cell? ⟨g, (keepI S (L.take j)).length, none⟩ = some v := by
          obtain ⟨c, h1, h2, _⟩ := HM.out.blk
          rw [cell_of h1]
          exact ⟨_, Array.getElem?_eq_getElem (by have := HM.out.lt; have := HM.out.le; omega)⟩
        obtain ⟨v0, hci⟩ := hci
        have hb : isOver S L[j] = (stateS S L[j] != 1) := rfl
        rw [← hb] at hok
        obtain ⟨x, hx⟩ : ∃ x, L[j] = x := ⟨_, rfl⟩
        rw [hx] at hc hok hput hst
        obtain ⟨b, hbb⟩ : ∃ b, isOver S x = b := ⟨_, rfl⟩
        rw [hbb] at hok hst
        obtain ⟨K, hK⟩ : ∃ K, keepI S (L.take j) = K := ⟨_, rfl⟩
        rw [hK] at hst hput hfr hci hkl HM ⊢
        clear hb hx hbb hK
        cases b
        · have hst := box (show keepI S (L.take (j + 1)) = K ++ [x] from hst.out)
          have HK2 := box (HK.out.setCell (p := ⟨g, K.length, none⟩) (.inl rfl) (.int .i64 x))
          go_wp2_with fail
          refine hok.out.mono ?_
          rintro e w3 ⟨rfl, rfl⟩
          go_wp2_with fail
          go_roundw
          case rel => exact ⟨j + 1, by omega, by go_num, by rw [hst.out, List.length_append, List.length_singleton]; go_num, by rw [hst.out]; exact hput.out, HK2.out⟩
          case measure => simp [intOf]; omega
        · have hst3 := box (show keepI S (L.take (j + 1)) = K from hst.out.trans (List.append_nil K))
          clear hst
          go_wp2_with fail
          refine hok.out.mono ?_
          rintro e w3 ⟨rfl, rfl⟩
          go_wp2_with fail
          go_roundw
          case rel => exact ⟨j + 1, by omega, by go_num, by rw [hst3.out], by rw [hst3.out]; exact HM.out.skip, HK.out⟩
          case measure => simp [intOf]; omega
      · obtain rfl : j = L.length := by omega
        rw [List.take_length] at HM hkl ⊢
        obtain ⟨K, hK⟩ : ∃ K, keepI S L = K := ⟨_, rfl⟩
        have HKK := box hK
        rw [hK] at HM hkl ⊢
        clear hK
        have hil := HM.out.lt
        have hle := HM.out.le
        obtain ⟨c, h1, h2, h3, _⟩ := HM.out.blk
        have hcl : ∀ ty, (Builtin.clear_ #[34] ty #[.slice (some ⟨g, K.length, none⟩) (L.length - K.length) (cap - K.length)]).run Try.prog wr = .ok (.tuple #[]) (wr.setCells g K.length (List.replicate (L.length - K.length) (.int .i64 0))) := fun ty =>
          run_clear_slice wr _ 3 ty (.int .i64 0) Try.underlying34 (fun w => by kernel_rfl) rfl rfl g K.length (L.length - K.length) (cap - K.length) (by omega)
            (fun k hk => by rw [cell_of h1, Array.getElem?_eq_getElem (by omega)]; rfl) (fun k hk => free_of h1 _)
        have hres := box (heap_setCells g _ (List.replicate (L.length - K.length) (.int .i64 0)) K.length wr c h1)
        have H3 := box h3
        have H2 := box h2
        have hic : K.length < cap := by omega
        have hic2 : ¬ cap = K.length := by omega
        clear h1 h2 h3
        go_wp2_with fail
        go_ret
        obtain ⟨c', r1, r2, r3⟩ := hres.out
        rw [HKK.out]
        exact ⟨rfl, ⟨c', r1, by rw [r2]; exact H2.out, by omega, fun i hi => by rw [r3 i hi]; exact H3.out i hi⟩, keeps_setCells (fun b => b = g) g _ _ _ _ (.inl rfl) HK.out⟩
  · have hkeep : keepI S L = L := List.filter_eq_self.2 (fun x hx => by rw [hall x hx]; rfl)
    have Hk := box hkeep
    clear hall hkeep
    go_wp2_with fail
    go_ret
    exact ⟨by rw [Hk.out]; rfl, by rw [Hk.out]; exact Hr.out, Keeps.refl _ _⟩
end Go.Proofs.Ytofffmnkoelifaa.pd
