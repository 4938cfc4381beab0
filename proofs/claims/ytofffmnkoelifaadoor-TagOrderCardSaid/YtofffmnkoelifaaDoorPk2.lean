/- Arguments as data: slices of whatever elements, structs, texts, numbers. -/
import Derived.Test.YtofffmnkoelifaaDoorRows
import Derived.WalkKit
import Derived.ProofKit
import Derived.OpenShut
import Derived.Handy
import Derived.Deep.LoopGhost
import Derived.Lib.Hide
import Derived.Lib.Strings
import Derived.SizedLaws
import Derived.Deep.Slices
import Derived.Test.YtofffmnkoelifaaDoorPk1
namespace Go.Proofs.YtofffmnkoelifaaDoor
open Go.ChangeShapes Go.WideShapes Go.ChangeAt Go.RowKit

theorem list_of {α : Type} : ∀ (n : Nat) (Q : Nat → α → Prop), (∀ i, i < n → ∃ x, Q i x) → ∃ l : List α, l.length = n ∧ ∀ i (hi : i < l.length), Q i l[i]
  | 0, _, _ => ⟨[], rfl, fun i hi => absurd hi (Nat.not_lt_zero _)⟩
  | n + 1, Q, h => by
    obtain ⟨x, hx⟩ := h 0 (Nat.succ_pos _)
    obtain ⟨l, hl, hq⟩ := list_of n (fun i => Q (i + 1)) (fun i hi => h (i + 1) (by omega))
    refine ⟨x :: l, by simp [hl], fun i hi => ?_⟩
    cases i with
    | zero => exact hx
    | succ i => exact hq i (by simpa using hi)

/-- How the cells of a value read, in a world. -/
abbrev Reads (α : Type) := World → List Value → α → Prop
/-- Nothing that a calm call does changes it. -/
def Reads.Lasts {α : Type} (R : Reads α) : Prop := ∀ w w' cs x, R w cs x → Calm w w' → R w' cs x

def IntR (k : IntKind) : Reads Int := fun _ cs n => cs = [.int k n] ∧ k.min ≤ n ∧ n ≤ k.max
def BoolR : Reads Bool := fun _ cs b => cs = [.bool b]
def StrR : Reads ByteArray := fun _ cs s => cs = [.string s] ∧ s.size ≤ maxLen
/-- A slice value whose elements, of c cells each, read as those of a list. -/
def RowsAt {α : Type} (R : Reads α) (c : Nat) (w : World) (v : Value) (l : List α) : Prop :=
  ∃ a cap, v = .slice a l.length cap ∧ l.length ≤ cap ∧ cap ≤ maxLen ∧ ∀ i (hi : i < l.length), ∃ b off cs, a = some ⟨b, off, none⟩ ∧ b < w.heap.size ∧ cs.length = c ∧ (∀ j, j < c → w.cell? ⟨b, off + i * c + j, none⟩ = cs[j]?) ∧ R w cs l[i]
def SliceR {α : Type} (R : Reads α) (c : Nat) : Reads (List α) := fun w cs l => ∃ v, cs = [v] ∧ RowsAt R c w v l
theorem IntR.lasts (k : IntKind) : (IntR k).Lasts := fun _ _ _ _ h _ => h
theorem BoolR.lasts : BoolR.Lasts := fun _ _ _ _ h _ => h
theorem StrR.lasts : StrR.Lasts := fun _ _ _ _ h _ => h
theorem RowsAt.calm {α : Type} {R : Reads α} {c : Nat} {w w' : World} {v : Value} {l : List α} (h : RowsAt R c w v l) (hR : R.Lasts) (hc : Calm w w') : RowsAt R c w' v l := by
  obtain ⟨a, cap, h1, h2, h3, h4⟩ := h
  refine ⟨a, cap, h1, h2, h3, fun i hi => ?_⟩
  obtain ⟨b, off, cs, e, hb, hl, hcell, hr⟩ := h4 i hi
  exact ⟨b, off, cs, e, Nat.lt_of_lt_of_le hb hc.size, hl, fun j hj => by rw [hc.cell (p := ⟨b, off + i * c + j, none⟩) hb]; exact hcell j hj, hR _ _ _ _ hr hc⟩
theorem SliceR.lasts {α : Type} {R : Reads α} {c : Nat} (hR : R.Lasts) : (SliceR R c).Lasts := fun _ _ _ _ ⟨v, e, h⟩ hc => ⟨v, e, h.calm hR hc⟩

section
variable {H : Type} {enc : TypeId × Value → H} {P : Program} {w : World} {base : Nat} {sp : Nat → Bool} {held : Bool} {fuel : Nat} {t e : TypeId} {cs : List Value} {x : DataW H × List MemPlace}
/-- What reads as data of a type reads so. -/
def Opens {α : Type} (P : Program) (t : TypeId) (R : Reads α) : Prop :=
  ∀ (H : Type) (enc : TypeId × Value → H) (w : World) (base : Nat) (sp : Nat → Bool) (held : Bool) (fuel : Nat) (cs : List Value) (x : DataW H × List MemPlace), DataW.trod enc P w base sp held fuel t cs = some x → ∃ y, R w cs y
theorem opens_int {k : IntKind} (ht : P.underlying t = some (.int k)) : Opens P t (IntR k) := fun _ _ _ _ _ _ _ _ _ h => by
  obtain ⟨n, h1, _, h3⟩ := DataW.trod_int ht h
  unfold Lit.wf at h3
  simp at h3
  exact ⟨n, h1, h3.1, h3.2⟩
theorem opens_bool (ht : P.underlying t = some .bool) : Opens P t BoolR := fun _ _ _ _ _ _ _ _ _ h => by
  obtain ⟨b, h1, _⟩ := DataW.trod_bool ht h
  exact ⟨b, h1⟩
theorem opens_string (ht : P.underlying t = some .string) : Opens P t StrR := fun _ _ _ _ _ _ _ _ _ h => by
  obtain ⟨s, h1, _, h3⟩ := DataW.trod_string ht h
  exact ⟨s, h1, h3⟩
open Go.Deep in
theorem opens_slice {α : Type} {R : Reads α} {c : Nat} (ht : P.underlying t = some (.slice e)) (hc : P.cellsOf e = c) (h0 : 0 < c) (hR : Opens P e R) : Opens P t (SliceR R c) := fun H enc w base sp held fuel cs x h => by
  rcases open_slice ht h with ⟨rfl, _⟩ | ⟨a, len, cap, m, n, D, Pl, rfl, hb, hl, hm, hmm, _, hi⟩
  · exact ⟨[], _, rfl, none, 0, rfl, Nat.le_refl _, Nat.zero_le _, fun i hi => absurd hi (Nat.not_lt_zero _)⟩
  · have hlm : len ≤ m := by rw [hmm]; split <;> omega
    have hsp : len = 0 ∨ a.spot = none := by
      by_cases h0' : len = 0
      · exact .inl h0'
      · obtain ⟨cs', hcs, _⟩ := hi 0 (by omega)
        rw [hc] at hcs
        obtain ⟨_, hlen, hcell⟩ := World.cells?_some hcs
        have hc0 := hcell 0 h0
        obtain ⟨u, hu⟩ := Option.isSome_iff_exists.1 (show (cs'[0]?).isSome = true by rw [List.getElem?_eq_getElem (by omega)]; rfl)
        rw [hu] at hc0
        exact .inr (by simpa [Addr.add] using World.cell?_spot hc0)
    obtain ⟨l, hlen, hq⟩ := list_of len (fun i y => ∃ b off cs, (some a) = some ⟨b, off, none⟩ ∧ b < w.heap.size ∧ cs.length = c ∧ (∀ j, j < c → w.cell? ⟨b, off + i * c + j, none⟩ = cs[j]?) ∧ R w cs y) (fun i hil => by
      obtain ⟨cs', hcs, ht'⟩ := hi i (by omega)
      rw [hc] at hcs
      obtain ⟨_, hlen, hcell⟩ := World.cells?_some hcs
      obtain ⟨y, hy⟩ := hR _ _ _ _ _ _ _ _ _ ht'
      obtain ⟨b, off, spot⟩ := a
      have hc0 := hcell 0 h0
      have hs : (cs'[0]?).isSome = true := by rw [List.getElem?_eq_getElem (by omega)]; rfl
      obtain ⟨u, hu⟩ := Option.isSome_iff_exists.1 hs
      rw [hu] at hc0
      have hspot : spot = none := by
        rcases hsp with h | h
        · omega
        · exact h
      subst hspot
      rw [add_plain, add_plain] at hc0
      refine ⟨y, b, off, cs', rfl, World.block_lt_of_cell? w _ hc0, hlen, fun j hj => ?_, hy⟩
      rw [← hcell j hj, add_plain, add_plain])
    subst hlen
    exact ⟨l, _, rfl, some a, cap, rfl, hl, hm, hq⟩
/-- An argument. -/
theorem Opens.arg {α : Type} {R : Reads α} (h : Opens P t R) {v : Value} {d : DataW H} {ps : List MemPlace} (hd : DataW.Trod enc P w base sp held t v d ps) : ∃ y, R w v.cells.toList y := by
  obtain ⟨fuel, hf⟩ := hd
  exact h _ _ _ _ _ _ _ _ _ hf
theorem slice_arg {α : Type} {R : Reads α} {c : Nat} {v : Value} {r : Reach} {b0 : Nat} (ht : P.underlying t = some (.slice e)) (hv : Value.okWide P w r b0 t v) (h : ∃ y, SliceR R c w v.cells.toList y) : ∃ y, RowsAt R c w v y := by
  obtain ⟨a0, len, cap, rfl⟩ := okWide_slice ht hv
  obtain ⟨y, v', hv', hr⟩ := h
  simp [Value.cells] at hv'
  subst hv'
  exact ⟨y, hr⟩
end

/-- Texts. -/
theorem RowsAt.strs {w : World} {v : Value} {l : List ByteArray} (h : RowsAt StrR 1 w v l) : StrsAt w v l ∧ (∀ s ∈ l, s.size ≤ maxLen) ∧ l.length ≤ maxLen := by
  obtain ⟨a, cap, rfl, h2, h3, h4⟩ := h
  have hmem : ∀ s ∈ l, s.size ≤ maxLen := fun s hs => by
    obtain ⟨i, hi, rfl⟩ := List.mem_iff_getElem.1 hs
    obtain ⟨_, _, _, _, _, _, _, _, hr⟩ := h4 i hi
    exact hr
  refine ⟨?_, hmem, by omega⟩
  cases l with
  | nil => exact .inl ⟨rfl, _, _, rfl⟩
  | cons s l =>
    obtain ⟨b, off, cs, rfl, _⟩ := h4 0 (by simp)
    refine .inr ⟨b, off, cap, rfl, fun k hk => ?_⟩
    obtain ⟨b', off', cs', e, hb, hl, hcell, hr, _⟩ := h4 k hk
    cases e
    have := hcell 0 (by omega)
    rw [hr] at this
    simp only [Nat.mul_one, Nat.add_zero] at this
    rw [this, List.getD_eq_getElem?_getD, List.getElem?_eq_getElem hk]; rfl

/-- All that has turned since W lies behind it; so does all of F. -/
structure Owns (W w : World) (F : Nat → Prop) : Prop where
  calm : Calm W w
  foot : ∀ b, F b → W.heap.size ≤ b
theorem Owns.refl (W : World) : Owns W W (fun _ => False) := ⟨.refl _, fun _ h => h.elim⟩
theorem Owns.step {W w w' : World} {F F' : Nat → Prop} (h : Owns W w F) (s : Step F w F' w') : Owns W w' F' :=
  have := s.below h.calm.size h.foot
  ⟨Below.trans h.calm this.1, this.2⟩
theorem Owns.calm' {W w w' : World} {F : Nat → Prop} (h : Owns W w F) (c : Calm w w') : Owns W w' F := ⟨h.calm.trans c, h.foot⟩
theorem Owns.new {W w w' : World} {G F : Nat → Prop} (h : Owns W w G) (c : Calm w w') (f : ∀ b, F b → w.heap.size ≤ b) : Owns W w' F := ⟨h.calm.trans c, fun b hb => Nat.le_trans h.calm.size (f b hb)⟩
/-- The block of a slice that was there is none of F's. -/
theorem RowsAt.lt {α : Type} {R : Reads α} {c : Nat} {w : World} {v : Value} {l : List α} (h : RowsAt R c w v l) {a : Addr} {n m : Nat} (e : v = .slice (some a) n m) (hn : 0 < n) : a.block < w.heap.size := by
  obtain ⟨a', cap, rfl, _, _, h4⟩ := h
  cases e
  obtain ⟨b, off, cs, e, hb, _⟩ := h4 0 hn
  cases e
  exact hb
end Go.Proofs.YtofffmnkoelifaaDoor
