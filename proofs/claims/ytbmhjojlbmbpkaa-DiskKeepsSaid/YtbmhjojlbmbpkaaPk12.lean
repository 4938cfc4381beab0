/- Arguments as data: slices of whatever elements, structs, texts, numbers. -/
import Derived.Test.YtbmhjojlbmbpkaaRows
import Derived.WalkKit
import Derived.ProofKit
import Derived.OpenShut
import Derived.Handy
import Derived.Deep.LoopGhost
import Derived.Lib.Hide
import Derived.Lib.Strings
import Derived.SizedLaws
import Derived.Maps.Own
import Derived.Maps.OwnOps
import Derived.Maps.OwnSet
import Derived.Maps.RangeWalk
import Derived.Deep.QuietTactic
import Derived.BigQuiet
import Derived.Deep.RegionHeld3
import Derived.Lib.ConvBytes
import Derived.Lib.AppendZeros
import Derived.Lib.AppendZerosOnto
import Derived.Lib.LazyBuf
import Derived.Shelf.Abstract
import Derived.LaidEql
import Derived.Lib.SliceRun
import Derived.StillTailTactics
import Derived.Outline
import Derived.Deep.Slices
import Derived.Test.YtbmhjojlbmbpkaaPk11
namespace Go.Proofs.Ytbmhjojlbmbpkaa
open Go.ChangeShapes Go.WideShapes Go.ChangeAt Go.RowKit

theorem list_of {α : Type} : ∀ (n : Nat) (Q : Nat → α → Prop), (∀ i, i < n → ∃ x, Q i x) → ∃ l : List α, l.length = n ∧ ∀ i (hi : i < l.length), Q i l[i]
  | 0, _, _ => ⟨[], rfl, fun i hi => absurd hi (Nat.not_lt_zero _)⟩
  | n + 1, Q, h => by
    obtain ⟨x, hx⟩ := h 0 (Nat.succ_pos _)
    obtain ⟨l, hl, hq⟩ := list_of n (fun i => Q (i + 1)) (fun i hi => h (i + 1) (by omega))
    refine ⟨x :: l, by simp [hl], fun i hi => ?_⟩
    cases i with
    | zero => exact hx
    | succ i => exact hq i (by simpa using hi)

/-- How the cells of a value read, in a world. -/
abbrev Reads (α : Type) := World → List Value → α → Prop
/-- Nothing that a calm call does changes it. -/
def Reads.Lasts {α : Type} (R : Reads α) : Prop := ∀ w w' cs x, R w cs x → Calm w w' → R w' cs x

def IntR (k : IntKind) : Reads Int := fun _ cs n => cs = [.int k n] ∧ k.min ≤ n ∧ n ≤ k.max
def BoolR : Reads Bool := fun _ cs b => cs = [.bool b]
def StrR : Reads ByteArray := fun _ cs s => cs = [.string s] ∧ s.size ≤ maxLen
/-- A slice value whose elements, of c cells each, read as those of a list. -/
def RowsAt {α : Type} (R : Reads α) (c : Nat) (w : World) (v : Value) (l : List α) : Prop :=
  ∃ a cap, v = .slice a l.length cap ∧ l.length ≤ cap ∧ cap ≤ maxLen ∧ ∀ i (hi : i < l.length), ∃ b off cs, a = some ⟨b, off, none⟩ ∧ b < w.heap.size ∧ cs.length = c ∧ (∀ j, j < c → w.cell? ⟨b, off + i * c + j, none⟩ = cs[j]?) ∧ R w cs l[i]
def SliceR {α : Type} (R : Reads α) (c : Nat) : Reads (List α) := fun w cs l => ∃ v, cs = [v] ∧ RowsAt R c w v l
theorem IntR.lasts (k : IntKind) : (IntR k).Lasts := fun _ _ _ _ h _ => h
theorem BoolR.lasts : BoolR.Lasts := fun _ _ _ _ h _ => h
theorem StrR.lasts : StrR.Lasts := fun _ _ _ _ h _ => h
theorem RowsAt.calm {α : Type} {R : Reads α} {c : Nat} {w w' : World} {v : Value} {l : List α} (h : RowsAt R c w v l) (hR : R.Lasts) (hc : Calm w w') : RowsAt R c w' v l := by
  obtain ⟨a, cap, h1, h2, h3, h4⟩ := h
  refine ⟨a, cap, h1, h2, h3, fun i hi => ?_⟩
  obtain ⟨b, off, cs, e, hb, hl, hcell, hr⟩ := h4 i hi
  exact ⟨b, off, cs, e, Nat.lt_of_lt_of_le hb hc.size, hl, fun j hj => by rw [hc.cell (p := ⟨b, off + i * c + j, none⟩) hb]; exact hcell j hj, hR _ _ _ _ hr hc⟩
theorem SliceR.lasts {α : Type} {R : Reads α} {c : Nat} (hR : R.Lasts) : (SliceR R c).Lasts := fun _ _ _ _ ⟨v, e, h⟩ hc => ⟨v, e, h.calm hR hc⟩

section
variable {H : Type} {enc : TypeId × Value → H} {P : Program} {w : World} {base : Nat} {sp : Nat → Bool} {held : Bool} {fuel : Nat} {t e : TypeId} {cs : List Value} {x : DataW H × List MemPlace}
/-- What reads as data of a type reads so. -/
def Opens {α : Type} (P : Program) (t : TypeId) (R : Reads α) : Prop :=
  ∀ (H : Type) (enc : TypeId × Value → H) (w : World) (base : Nat) (sp : Nat → Bool) (held : Bool) (fuel : Nat) (cs : List Value) (x : DataW H × List MemPlace), DataW.trod enc P w base sp held fuel t cs = some x → ∃ y, R w cs y
theorem opens_int {k : IntKind} (ht : P.underlying t = some (.int k)) : Opens P t (IntR k) := fun _ _ _ _ _ _ _ _ _ h => by
  obtain ⟨n, h1, _, h3⟩ := DataW.trod_int ht h
  unfold Lit.wf at h3
  simp at h3
  exact ⟨n, h1, h3.1, h3.2⟩
theorem opens_bool (ht : P.underlying t = some .bool) : Opens P t BoolR := fun _ _ _ _ _ _ _ _ _ h => by
  obtain ⟨b, h1, _⟩ := DataW.trod_bool ht h
  exact ⟨b, h1⟩
theorem opens_string (ht : P.underlying t = some .string) : Opens P t StrR := fun _ _ _ _ _ _ _ _ _ h => by
  obtain ⟨s, h1, _, h3⟩ := DataW.trod_string ht h
  exact ⟨s, h1, h3⟩
open Go.Deep in
theorem opens_slice {α : Type} {R : Reads α} {c : Nat} (ht : P.underlying t = some (.slice e)) (hc : P.cellsOf e = c) (h0 : 0 < c) (hR : Opens P e R) : Opens P t (SliceR R c) := fun H enc w base sp held fuel cs x h => by
  rcases open_slice ht h with ⟨rfl, _⟩ | ⟨a, len, cap, m, n, D, Pl, rfl, hb, hl, hm, hmm, _, hi⟩
  · exact ⟨[], _, rfl, none, 0, rfl, Nat.le_refl _, Nat.zero_le _, fun i hi => absurd hi (Nat.not_lt_zero _)⟩
  · have hlm : len ≤ m := by rw [hmm]; split <;> omega
    have hsp : len = 0 ∨ a.spot = none := by
      by_cases h0' : len = 0
      · exact .inl h0'
      · obtain ⟨cs', hcs, _⟩ := hi 0 (by omega)
        rw [hc] at hcs
        obtain ⟨_, hlen, hcell⟩ := World.cells?_some hcs
        have hc0 := hcell 0 h0
        obtain ⟨u, hu⟩ := Option.isSome_iff_exists.1 (show (cs'[0]?).isSome = true by rw [List.getElem?_eq_getElem (by omega)]; rfl)
        rw [hu] at hc0
        exact .inr (by simpa [Addr.add] using World.cell?_spot hc0)
    obtain ⟨l, hlen, hq⟩ := list_of len (fun i y => ∃ b off cs, (some a) = some ⟨b, off, none⟩ ∧ b < w.heap.size ∧ cs.length = c ∧ (∀ j, j < c → w.cell? ⟨b, off + i * c + j, none⟩ = cs[j]?) ∧ R w cs y) (fun i hil => by
      obtain ⟨cs', hcs, ht'⟩ := hi i (by omega)
      rw [hc] at hcs
      obtain ⟨_, hlen, hcell⟩ := World.cells?_some hcs
      obtain ⟨y, hy⟩ := hR _ _ _ _ _ _ _ _ _ ht'
      obtain ⟨b, off, spot⟩ := a
      have hc0 := hcell 0 h0
      have hs : (cs'[0]?).isSome = true := by rw [List.getElem?_eq_getElem (by omega)]; rfl
      obtain ⟨u, hu⟩ := Option.isSome_iff_exists.1 hs
      rw [hu] at hc0
      have hspot : spot = none := by
        rcases hsp with h | h
        · omega
        · exact h
      subst hspot
      rw [add_plain, add_plain] at hc0
      refine ⟨y, b, off, cs', rfl, World.block_lt_of_cell? w _ hc0, hlen, fun j hj => ?_, hy⟩
      rw [← hcell j hj, add_plain, add_plain])
    subst hlen
    exact ⟨l, _, rfl, some a, cap, rfl, hl, hm, hq⟩
/-- An argument. -/
theorem Opens.arg {α : Type} {R : Reads α} (h : Opens P t R) {v : Value} {d : DataW H} {ps : List MemPlace} (hd : DataW.Trod enc P w base sp held t v d ps) : ∃ y, R w v.cells.toList y := by
  obtain ⟨fuel, hf⟩ := hd
  exact h _ _ _ _ _ _ _ _ _ hf
theorem slice_arg {α : Type} {R : Reads α} {c : Nat} {v : Value} {r : Reach} {b0 : Nat} (ht : P.underlying t = some (.slice e)) (hv : Value.okWide P w r b0 t v) (h : ∃ y, SliceR R c w v.cells.toList y) : ∃ y, RowsAt R c w v y := by
  obtain ⟨a0, len, cap, rfl⟩ := okWide_slice ht hv
  obtain ⟨y, v', hv', hr⟩ := h
  simp [Value.cells] at hv'
  subst hv'
  exact ⟨y, hr⟩
end

/-- Texts. -/
theorem RowsAt.strs {w : World} {v : Value} {l : List ByteArray} (h : RowsAt StrR 1 w v l) : StrsAt w v l ∧ (∀ s ∈ l, s.size ≤ maxLen) ∧ l.length ≤ maxLen := by
  obtain ⟨a, cap, rfl, h2, h3, h4⟩ := h
  have hmem : ∀ s ∈ l, s.size ≤ maxLen := fun s hs => by
    obtain ⟨i, hi, rfl⟩ := List.mem_iff_getElem.1 hs
    obtain ⟨_, _, _, _, _, _, _, _, hr⟩ := h4 i hi
    exact hr
  refine ⟨?_, hmem, by omega⟩
  cases l with
  | nil => exact .inl ⟨rfl, _, _, rfl⟩
  | cons s l =>
    obtain ⟨b, off, cs, rfl, _⟩ := h4 0 (by simp)
    refine .inr ⟨b, off, cap, rfl, fun k hk => ?_⟩
    obtain ⟨b', off', cs', e, hb, hl, hcell, hr, _⟩ := h4 k hk
    cases e
    have := hcell 0 (by omega)
    rw [hr] at this
    simp only [Nat.mul_one, Nat.add_zero] at this
    rw [this, List.getD_eq_getElem?_getD, List.getElem?_eq_getElem hk]; rfl

/-- All that has turned since W lies behind it; so does all of F. -/
structure Owns (W w : World) (F : Nat → Prop) : Prop where
  calm : Calm W w
  foot : ∀ b, F b → W.heap.size ≤ b
theorem Owns.refl (W : World) : Owns W W (fun _ => False) := ⟨.refl _, fun _ h => h.elim⟩
theorem Owns.step {W w w' : World} {F F' : Nat → Prop} (h : Owns W w F) (s : Step F w F' w') : Owns W w' F' :=
  have := s.below h.calm.size h.foot
  ⟨Below.trans h.calm this.1, this.2⟩
theorem Owns.calm' {W w w' : World} {F : Nat → Prop} (h : Owns W w F) (c : Calm w w') : Owns W w' F := ⟨h.calm.trans c, h.foot⟩
theorem Owns.new {W w w' : World} {G F : Nat → Prop} (h : Owns W w G) (c : Calm w w') (f : ∀ b, F b → w.heap.size ≤ b) : Owns W w' F := ⟨h.calm.trans c, fun b hb => Nat.le_trans h.calm.size (f b hb)⟩
/-- The block of a slice that was there is none of F's. -/
theorem RowsAt.lt {α : Type} {R : Reads α} {c : Nat} {w : World} {v : Value} {l : List α} (h : RowsAt R c w v l) {a : Addr} {n m : Nat} (e : v = .slice (some a) n m) (hn : 0 < n) : a.block < w.heap.size := by
  obtain ⟨a', cap, rfl, _, _, h4⟩ := h
  cases e
  obtain ⟨b, off, cs, e, hb, _⟩ := h4 0 hn
  cases e
  exact hb
end Go.Proofs.Ytbmhjojlbmbpkaa

/- Layer 4: calls as data; Do. -/
namespace Go.Proofs.Ytbmhjojlbmbpkaa.dk
open Go.ChangeShapes Go.WideShapes Go.ChangeAt Go.RowKit

def opCells (o : OpS) (lv kv : Value) : List Value := [.int .i64 o.k, .int .i64 o.n, .string o.a, .string o.b, .string o.s, lv, kv, .int .i64 o.lack]
/-- What a call's data hang on. -/
structure OpIs (w : World) (lv kv : Value) (o : OpS) : Prop where
  l : RowsAt StrR 1 w lv o.l
  keep : RowsAt BoolR 1 w kv o.keep
  n : o.n ≤ 9223372036854775807
def OpR : Reads OpS := fun w cs o => ∃ lv kv, cs = opCells o lv kv ∧ OpIs w lv kv o
theorem OpIs.calm {w w' : World} {lv kv : Value} {o : OpS} (h : OpIs w lv kv o) (hc : Calm w w') : OpIs w' lv kv o := ⟨h.l.calm StrR.lasts hc, h.keep.calm BoolR.lasts hc, h.n⟩
theorem OpR.lasts : OpR.Lasts := fun _ _ _ _ ⟨lv, kv, e, h⟩ hc => ⟨lv, kv, e, h.calm hc⟩
set_option maxRecDepth 100000 in
theorem opens_op : Opens Try.prog 36 OpR := fun H enc w base sp held fuel cs x h => by
  obtain ⟨xs, n, _, _, hlen, hxl, hg⟩ := DataW.trod_struct Try.underlying36 h
  rw [show Try.prog.cellsOf 36 = 8 by kernel_rfl] at hlen
  match cs, hlen with
  | [c0, c1, c2, c3, c4, c5, c6, c7], _ =>
    have hx : ∀ i, i < xs.length → ∃ y, xs[i]? = some y := fun i hi => ⟨_, List.getElem?_eq_getElem hi⟩
    simp only [List.size_toArray, List.length_cons, List.length_nil] at hxl
    have g0 := hg 0 _ rfl
    have g1 := hg 1 _ rfl
    have g2 := hg 2 _ rfl
    have g3 := hg 3 _ rfl
    have g4 := hg 4 _ rfl
    have g5 := hg 5 _ rfl
    have g6 := hg 6 _ rfl
    clear hg
    obtain ⟨y0, e0⟩ := hx 0 (by omega)
    obtain ⟨y1, e1⟩ := hx 1 (by omega)
    obtain ⟨y2, e2⟩ := hx 2 (by omega)
    obtain ⟨y3, e3⟩ := hx 3 (by omega)
    obtain ⟨y4, e4⟩ := hx 4 (by omega)
    obtain ⟨y5, e5⟩ := hx 5 (by omega)
    obtain ⟨y6, e6⟩ := hx 6 (by omega)
    rw [e0] at g0
    rw [e1] at g1
    rw [e2] at g2
    rw [e3] at g3
    rw [e4] at g4
    rw [e5] at g5
    rw [e6] at g6
    obtain ⟨k, hk, _⟩ := opens_int Try.underlying3 _ _ _ _ _ _ _ _ _ g0
    obtain ⟨m, hm, _, hm2⟩ := opens_int Try.underlying3 _ _ _ _ _ _ _ _ _ g1
    obtain ⟨a, ha, _⟩ := opens_string Try.underlying9 _ _ _ _ _ _ _ _ _ g2
    obtain ⟨b, hb, _⟩ := opens_string Try.underlying9 _ _ _ _ _ _ _ _ _ g3
    obtain ⟨s, hs, _⟩ := opens_string Try.underlying9 _ _ _ _ _ _ _ _ _ g4
    obtain ⟨l, lv, hl, hlr⟩ := opens_slice (c := 1) Try.underlying31 (by kernel_rfl) (by decide) (opens_string Try.underlying9) _ _ _ _ _ _ _ _ _ g5
    obtain ⟨ys, n2, _, _, hlen2, hyl, hg2⟩ := DataW.trod_struct Try.underlying34 g6
    simp only [List.size_toArray, List.length_cons, List.length_nil] at hyl
    have q0 := hg2 0 _ rfl
    have q1 := hg2 1 _ rfl
    clear hg2
    rw [List.getElem?_eq_getElem (by omega)] at q0 q1
    obtain ⟨keep, kv, hkv, hkr⟩ := opens_slice (c := 1) Try.underlying32 (by kernel_rfl) (by decide) (opens_bool Try.underlying4) _ _ _ _ _ _ _ _ _ q0
    obtain ⟨lack, hla, _⟩ := opens_int Try.underlying3 _ _ _ _ _ _ _ _ _ q1
    refine ⟨⟨k, m, a, b, s, l, keep, lack⟩, lv, kv, ?_, hlr, hkr, hm2⟩
    have n1 : Try.prog.cellsOf 3 = 1 := by kernel_rfl
    have n2 : Try.prog.cellsOf 9 = 1 := by kernel_rfl
    have n3 : Try.prog.cellsOf 31 = 1 := by kernel_rfl
    have n4 : Try.prog.cellsOf 32 = 1 := by kernel_rfl
    have n5 : Try.prog.cellsOf 34 = 2 := by kernel_rfl
    simp [n1, n2, n3, n4, n5] at hk hm ha hb hs hl hkv hla
    subst hk hm ha hb hs hl hkv hla
    rfl

section
variable {w w' : World} {p : Nat} {D : DiskS} {F : Nat → Prop}
theorem RowsAt_bools {v : Value} {l : List Bool} (h : RowsAt BoolR 1 w v l) : ∃ a cap, v = .slice a l.length cap ∧ l.length ≤ cap ∧ BoolsAt w a l := by
  obtain ⟨a, cap, rfl, h2, _, h4⟩ := h
  refine ⟨a, cap, rfl, h2, fun k hk => ?_⟩
  obtain ⟨b, off, cs, e, _, _, hcell, hr⟩ := h4 k hk
  refine ⟨b, off, e, ?_⟩
  have := hcell 0 (by omega)
  unfold BoolR at hr
  rw [hr] at this
  simpa using this

def DoDone (D : DiskS) (o : OpS) (p : Nat) (F : Nat → Prop) (w : World) (e : Ending) (w' : World) : Prop :=
  ∃ b F', w.heap.size ≤ b ∧ e = .returned (.int .i64 (D.does o b).1) ∧ DiskAt w' p (D.does o b).2 F' ∧ Step F w F' w'
theorem DoDone.of {o : OpS} {w1 : World} (hc : Calm w w1) {r : Int × DiskS} (hr : ∀ b, D.does o b = r) {F' : Nat → Prop} {n : Int} (hn : n = r.1) (hd : DiskAt w' p r.2 F') (hs : Step F w1 F' w') : DoDone D o p F w (.returned (.int .i64 n)) w' := by
  subst hn
  exact ⟨w.heap.size, F', Nat.le_refl _, by rw [hr], by rw [hr]; exact hd, Step.calm_left hc hs⟩

set_option maxRecDepth 100000 in
set_option maxHeartbeats 4000000 in
theorem Do_any (o : OpS) (lv kv : Value) (w : World) (h : DiskAt w p D F) (hg : Good D) (ho : OpIs w lv kv o) (hl : Apart lv F) (hk : Apart kv F) (hwl : D.waits.length ≤ 1000000) (hs : o.s.size ≤ 1000000000) (hll : o.l.length ≤ 4294967296) (hkl : o.keep.length ≤ 1000000) :
    Calls Try.prog 16 #[ptrTo p, .agg (opCells o lv kv).toArray] w (DoDone D o p F w) := by
  obtain ⟨k, n, a, b, s, l, keep, lack⟩ := o
  obtain ⟨ho1, ho2, ho3⟩ := ho
  simp only at ho1 ho2 ho3 hs hll hkl
  obtain ⟨ka, kcap, rfl, hkc, hkb⟩ := RowsAt_bools ho2
  obtain ⟨hls, _, _⟩ := ho1.strs
  have hc : Calm w (w.alloc (.cells #[.int .i64 k, .int .i64 n, .string a, .string b, .string s, lv, .slice ka keep.length kcap, .int .i64 lack] 36)) := (Calm.refl w).alloc _
  have h1 := h.calm hc
  have Hc := box hc
  show Calls Try.prog 16 #[ptrTo p, .agg #[.int .i64 k, .int .i64 n, .string a, .string b, .string s, lv, .slice ka keep.length kcap, .int .i64 lack]] w _
  obtain ⟨la, ll, lc, rfl⟩ : ∃ la ll lc, lv = .slice la ll lc := by rcases hls with ⟨_, a, c, rfl⟩ | ⟨b, o, c, rfl, _⟩ <;> exact ⟨_, _, _, rfl⟩
  by_cases k0 : k = 0
  · subst k0
    have hr := box (show ∀ x, D.does ⟨0, n, a, b, s, l, keep, lack⟩ x = D.create a x from fun _ => rfl)
    have H := box (Create_any _ a h1 hg.left)
    clear h h1 hg ho1 ho2 hls hkb hl hk hwl hc
    go_enter Try.func16, Try.ntmps16
    go_wp2_with fail
    refine H.out.mono ?_
    rintro e w2 ⟨b0, F2, hb0, rfl, hd2, hs2⟩
    go_wp2_with fail
    go_ret
    exact ⟨b0, F2, Nat.le_trans Hc.out.size hb0, ret_int (by rw [hr.out]), by rw [hr.out]; exact hd2, Step.calm_left Hc.out hs2⟩
  by_cases k1 : k = 1
  · subst k1
    have hr := box (show ∀ x, D.does ⟨1, n, a, b, s, l, keep, lack⟩ x = D.write a n s from fun _ => rfl)
    have H := box (Write_any a s n _ h1 hg.left hwl (by have := hg.sizeN; omega) hs hg.cap (fun f hf => by have := (hg.file hf).1; omega))
    clear h h1 hg ho1 ho2 hls hkb hl hk hwl hc
    go_enter Try.func16, Try.ntmps16
    go_wp2_with fail
    refine H.out.mono ?_
    rintro e w2 ⟨rfl, F2, hd2, hs2⟩
    go_wp2_with fail
    go_ret
    exact DoDone.of Hc.out hr.out rfl hd2 hs2
  by_cases k2 : k = 2
  · subst k2
    have hr := box (show ∀ x, D.does ⟨2, n, a, b, s, l, keep, lack⟩ x = D.sync l from fun _ => rfl)
    have H := box (Sync_any (.slice la ll lc) l _ h1 (hls.calm hc) hl hll hg.left hwl)
    clear h h1 hg ho1 ho2 hls hkb hl hk hwl hc
    go_enter Try.func16, Try.ntmps16
    go_wp2_with fail
    refine H.out.mono ?_
    rintro e w2 ⟨rfl, F2, hd2, hs2⟩
    go_wp2_with fail
    go_ret
    exact DoDone.of Hc.out hr.out rfl hd2 hs2
  by_cases k3 : k = 3
  · subst k3
    have hr := box (show ∀ x, D.does ⟨3, n, a, b, s, l, keep, lack⟩ x = D.cut a n from fun _ => rfl)
    have H := box (Cut_any a n _ h1 hg.left hwl)
    clear h h1 hg ho1 ho2 hls hkb hl hk hwl hc
    go_enter Try.func16, Try.ntmps16
    go_wp2_with fail
    refine H.out.mono ?_
    rintro e w2 ⟨rfl, F2, hd2, hs2⟩
    go_wp2_with fail
    go_ret
    exact DoDone.of Hc.out hr.out rfl hd2 hs2
  by_cases k4 : k = 4
  · subst k4
    have hr := box (show ∀ x, D.does ⟨4, n, a, b, s, l, keep, lack⟩ x = D.rename a b from fun _ => rfl)
    have H := box (Rename_any a b _ h1 hg.left hwl)
    clear h h1 hg ho1 ho2 hls hkb hl hk hwl hc
    go_enter Try.func16, Try.ntmps16
    go_wp2_with fail
    refine H.out.mono ?_
    rintro e w2 ⟨rfl, F2, hd2, hs2⟩
    go_wp2_with fail
    go_ret
    exact DoDone.of Hc.out hr.out rfl hd2 hs2
  by_cases k5 : k = 5
  · subst k5
    have hr := box (show ∀ x, D.does ⟨5, n, a, b, s, l, keep, lack⟩ x = D.delete l from fun _ => rfl)
    have H := box (Delete_any (.slice la ll lc) l _ h1 (hls.calm hc) hl hll hg.left hwl)
    clear h h1 hg ho1 ho2 hls hkb hl hk hwl hc
    go_enter Try.func16, Try.ntmps16
    go_wp2_with fail
    refine H.out.mono ?_
    rintro e w2 ⟨rfl, F2, hd2, hs2⟩
    go_wp2_with fail
    go_ret
    exact DoDone.of Hc.out hr.out rfl hd2 hs2
  by_cases k6 : k = 6
  · subst k6
    have hr := box (show ∀ x, D.does ⟨6, n, a, b, s, l, keep, lack⟩ x = (0, D.fuse n) from fun _ => rfl)
    have H := box (Fuse_any _ n h1)
    clear h h1 hg ho1 ho2 hls hkb hl hk hwl hc
    go_enter Try.func16, Try.ntmps16
    go_wp2_with fail
    refine H.out.mono ?_
    rintro e w2 ⟨rfl, hd2, hs2⟩
    go_wp2_with fail
    go_ret
    exact DoDone.of Hc.out hr.out rfl hd2 hs2
  by_cases k7 : k = 7
  · subst k7
    have hr := box (show ∀ x, D.does ⟨7, n, a, b, s, l, keep, lack⟩ x = (0, D.crashed keep lack) from fun _ => rfl)
    have H := box (Crash_any ka kcap keep lack _ h1 (hkb.calm hc) hk hkc hkl hwl (fun x hx => by have := hg.wait h.form hx; omega) (fun f hf => by have := (hg.file hf).2; omega))
    clear h h1 hg ho1 ho2 hls hkb hl hk hwl hc
    go_enter Try.func16, Try.ntmps16
    go_wp2_with fail
    refine H.out.mono ?_
    rintro e w2 ⟨rfl, F2, hd2, hs2⟩
    go_wp2_with fail
    go_ret
    exact DoDone.of Hc.out hr.out rfl hd2 hs2
  have hr := box (show ∀ x, D.does ⟨k, n, a, b, s, l, keep, lack⟩ x = (0, D) from fun _ => by unfold DiskS.does; simp only [if_neg k0, if_neg k1, if_neg k2, if_neg k3, if_neg k4, if_neg k5, if_neg k6, if_neg k7])
  have t0 : (k == 0) = false := by rw [beq_eq_false_iff_ne]; exact k0
  have t1 : (k == 1) = false := by rw [beq_eq_false_iff_ne]; exact k1
  have t2 : (k == 2) = false := by rw [beq_eq_false_iff_ne]; exact k2
  have t3 : (k == 3) = false := by rw [beq_eq_false_iff_ne]; exact k3
  have t4 : (k == 4) = false := by rw [beq_eq_false_iff_ne]; exact k4
  have t5 : (k == 5) = false := by rw [beq_eq_false_iff_ne]; exact k5
  have t6 : (k == 6) = false := by rw [beq_eq_false_iff_ne]; exact k6
  have t7 : (k == 7) = false := by rw [beq_eq_false_iff_ne]; exact k7
  have H1 := box h1
  clear h h1 hg ho1 ho2 hls hkb hl hk hwl hc k0 k1 k2 k3 k4 k5 k6 k7
  go_enter Try.func16, Try.ntmps16
  go_wp2_with fail
  go_ret
  exact DoDone.of Hc.out hr.out rfl H1.out (.refl _ _)
end
end Go.Proofs.Ytbmhjojlbmbpkaa.dk

/- Layer 4: the disk's calls, told of a disk that is good; Read. -/
namespace Go.Proofs.Ytbmhjojlbmbpkaa.dk
open Go.ChangeShapes Go.WideShapes Go.ChangeAt Go.RowKit

/-- A good disk lies at p, in the blocks of F; at most n writes wait. -/
structure DiskOk (w : World) (p : Nat) (D : DiskS) (F : Nat → Prop) (n : Nat) : Prop where
  lies : DiskAt w p D F
  good : Good D
  waits : D.waits.length ≤ n
/-- What a call leaves. -/
def OkDone (r : Int × DiskS) (p : Nat) (F : Nat → Prop) (n : Nat) (w : World) (e : Ending) (w' : World) : Prop := e = .returned (.int .i64 r.1) ∧ ∃ F', DiskOk w' p r.2 F' n ∧ Step F w F' w'
theorem OkDone.at {r : Int × DiskS} {p n : Nat} {F : Nat → Prop} {w w' : World} {e : Ending} (h : OkDone r p F n w e w') {k : Int} {E : DiskS} (hr : r = (k, E)) : e = .returned (.int .i64 k) ∧ ∃ F', DiskOk w' p E F' n ∧ Step F w F' w' := by
  subst hr; exact h

section
variable {w w' : World} {p n : Nat} {D : DiskS} {F : Nat → Prop}
theorem DiskOk.calm (h : DiskOk w p D F n) (hc : Calm w w') : DiskOk w' p D F n := ⟨h.lies.calm hc, h.good, h.waits⟩
theorem DiskOk.mono (h : DiskOk w p D F n) {m : Nat} (hm : n ≤ m) : DiskOk w p D F m := ⟨h.lies, h.good, Nat.le_trans h.waits hm⟩
theorem DiskOk.form (h : DiskOk w p D F n) : Form D := h.lies.form
theorem DiskOk.foot_lt (h : DiskOk w p D F n) : ∀ b, F b → b < w.heap.size := by
  obtain ⟨mb, wv, h1, rfl⟩ := h.lies; exact h1.foot_lt
theorem DiskOk.keep (h : DiskOk w p D F n) {G : Nat → Prop} (k : Keeps G w w') (hG : ∀ b, F b → ¬ G b) : DiskOk w' p D F n := by
  obtain ⟨mb, wv, h1, rfl⟩ := h.lies
  exact ⟨⟨mb, wv, h1.keep k hG, rfl⟩, h.good, h.waits⟩
theorem DiskOk.head (h : DiskOk w p D F n) : F p := by obtain ⟨mb, wv, h1, rfl⟩ := h.lies; exact .inl rfl

theorem _root_.Go.Proofs.Ytbmhjojlbmbpkaa.Owns.apart {α : Type} {R : Reads α} {c : Nat} {W w : World} {F : Nat → Prop} {v : Value} {l : List α} (h : Owns W w F) (hr : RowsAt R c W v l) : Apart v F := fun a n m e hn hf => by
  have := hr.lt e hn
  have := h.foot _ hf
  omega
theorem doing_waits {f : DiskS → DiskS} {m : Nat} (h : D.waits.length ≤ m) (hf : (f D.burn).waits.length ≤ m) : (D.doing f).2.waits.length ≤ m := by
  unfold DiskS.doing; split
  · rw [burn_files.2.1]; exact h
  · exact hf
theorem create_waits (s : ByteArray) (b : Nat) : (D.create s b).2.waits.length ≤ D.waits.length := by
  unfold DiskS.create; split; exact Nat.le_refl _
  split; exact Nat.le_refl _
  exact doing_waits (Nat.le_refl _) (by show D.burn.waits.length ≤ _; rw [burn_files.2.1]; exact Nat.le_refl _)
theorem write_waits (s : ByteArray) (k : Int) (t : ByteArray) : (D.write s k t).2.waits.length ≤ D.waits.length + 1 := by
  unfold DiskS.write; split; exact Nat.le_succ _
  split; exact Nat.le_succ _
  split; exact Nat.le_succ _
  split; exact Nat.le_succ _
  refine doing_waits (by omega) ?_
  split
  · rw [burn_files.2.1]; omega
  · show (D.burn.waits ++ _).length ≤ _
    rw [burn_files.2.1]; simp
theorem lasts_waits (l : List ByteArray) : ∀ D : DiskS, (l.foldl DiskS.last D).waits.length ≤ D.waits.length := by
  induction l with
  | nil => exact fun _ => Nat.le_refl _
  | cons n l ih => exact fun D => Nat.le_trans (ih _) (last_waits n)
theorem sync_waits (l : List ByteArray) : (D.sync l).2.waits.length ≤ D.waits.length := by
  unfold DiskS.sync; split; exact Nat.le_refl _
  exact doing_waits (Nat.le_refl _) (by have := lasts_waits l D.burn; rw [burn_files.2.1] at this; exact this)
theorem cut_waits (s : ByteArray) (k : Int) : (D.cut s k).2.waits.length ≤ D.waits.length := by
  unfold DiskS.cut; split; exact Nat.le_refl _
  split; exact Nat.le_refl _
  split; exact Nat.le_refl _
  refine doing_waits (Nat.le_refl _) (Nat.le_trans (last_waits s) ?_)
  show D.burn.waits.length ≤ _
  rw [burn_files.2.1]; exact Nat.le_refl _
theorem drops_waits (l : List ByteArray) : ∀ D : DiskS, (l.foldl DiskS.drop D).waits.length ≤ D.waits.length := by
  induction l with
  | nil => exact fun _ => Nat.le_refl _
  | cons n l ih => exact fun D => Nat.le_trans (ih _) (drop_waits n)
theorem delete_waits (l : List ByteArray) : (D.delete l).2.waits.length ≤ D.waits.length := by
  unfold DiskS.delete; split; exact Nat.le_refl _
  exact doing_waits (Nat.le_refl _) (by have := drops_waits l D.burn; rw [burn_files.2.1] at this; exact this)
theorem rename_waits (a b : ByteArray) : (D.rename a b).2.waits.length ≤ D.waits.length := by
  unfold DiskS.rename; split; exact Nat.le_refl _
  split; exact Nat.le_refl _
  refine doing_waits (Nat.le_refl _) ?_
  split
  · rw [burn_files.2.1]; exact Nat.le_refl _
  · have := drop_waits (D := D.burn) b
    rw [burn_files.2.1] at this; exact this

theorem Create_ok (s : ByteArray) (w : World) (h : DiskOk w p D F n) : Calls Try.prog 13 #[ptrTo p, .string s] w
    fun e w' => ∃ b, w.heap.size ≤ b ∧ OkDone (D.create s b) p F n w e w' :=
  (Create_any w s h.lies h.good.left).mono fun _ _ ⟨b, F', hb, he, hd, hs⟩ =>
    ⟨b, hb, he, F', ⟨hd, h.good.create h.form s b (fun f hf e => by
      have : F f.blk := by obtain ⟨mb, wv, h1, rfl⟩ := h.lies; exact .inr (.inr (.inr (List.mem_map.2 ⟨f, hf, rfl⟩)))
      have := h.foot_lt _ this
      omega), Nat.le_trans (create_waits s b) h.waits⟩, hs⟩
theorem Write_ok (s t : ByteArray) (k : Int) (w : World) (h : DiskOk w p D F n) (hn : n ≤ 1000000) (ht : t.size ≤ 1000000000) : Calls Try.prog 14 #[ptrTo p, .string s, .int .i64 k, .string t] w (OkDone (D.write s k t) p F (n + 1) w) :=
  (Write_any s t k w h.lies h.good.left (Nat.le_trans h.waits hn) (by have := h.good.sizeN; omega) ht h.good.cap (fun f hf => by have := (h.good.file hf).1; omega)).mono fun _ _ ⟨he, F', hd, hs⟩ =>
    ⟨he, F', ⟨hd, h.good.write h.form _ _ _, Nat.le_trans (write_waits _ _ _) (Nat.succ_le_succ h.waits)⟩, hs⟩
theorem Sync_ok (v : Value) (l : List ByteArray) (w : World) (h : DiskOk w p D F n) (hn : n ≤ 1000000) (hv : StrsAt w v l) (hap : Apart v F) (hl : l.length ≤ 4294967296) : Calls Try.prog 15 #[ptrTo p, v] w (OkDone (D.sync l) p F n w) :=
  (Sync_any v l w h.lies hv hap hl h.good.left (Nat.le_trans h.waits hn)).mono fun _ _ ⟨he, F', hd, hs⟩ => ⟨he, F', ⟨hd, h.good.sync h.form _, Nat.le_trans (sync_waits _) h.waits⟩, hs⟩
theorem Cut_ok (s : ByteArray) (k : Int) (w : World) (h : DiskOk w p D F n) (hn : n ≤ 1000000) : Calls Try.prog 40 #[ptrTo p, .string s, .int .i64 k] w (OkDone (D.cut s k) p F n w) :=
  (Cut_any s k w h.lies h.good.left (Nat.le_trans h.waits hn)).mono fun _ _ ⟨he, F', hd, hs⟩ => ⟨he, F', ⟨hd, h.good.cut h.form _ _, Nat.le_trans (cut_waits _ _) h.waits⟩, hs⟩
theorem Rename_ok (a b : ByteArray) (w : World) (h : DiskOk w p D F n) (hn : n ≤ 1000000) : Calls Try.prog 41 #[ptrTo p, .string a, .string b] w (OkDone (D.rename a b) p F n w) :=
  (Rename_any a b w h.lies h.good.left (Nat.le_trans h.waits hn)).mono fun _ _ ⟨he, F', hd, hs⟩ => ⟨he, F', ⟨hd, h.good.rename h.form _ _, Nat.le_trans (rename_waits _ _) h.waits⟩, hs⟩
theorem Delete_ok (v : Value) (l : List ByteArray) (w : World) (h : DiskOk w p D F n) (hn : n ≤ 1000000) (hv : StrsAt w v l) (hap : Apart v F) (hl : l.length ≤ 4294967296) : Calls Try.prog 42 #[ptrTo p, v] w (OkDone (D.delete l) p F n w) :=
  (Delete_any v l w h.lies hv hap hl h.good.left (Nat.le_trans h.waits hn)).mono fun _ _ ⟨he, F', hd, hs⟩ => ⟨he, F', ⟨hd, h.good.delete _, Nat.le_trans (delete_waits _) h.waits⟩, hs⟩
theorem New_ok (w : World) (c : Int) : Calls Try.prog 12 #[.int .i64 c] w fun e w' => ∃ p F, e = .returned (ptrTo p) ∧ DiskOk w' p (new c) F 0 ∧ Calm w w' ∧ ∀ b, F b → w.heap.size ≤ b :=
  (New_any w c).mono fun _ _ ⟨p, F, he, hd, hc, hF⟩ => ⟨p, F, he, ⟨hd, new_good c, Nat.le_refl _⟩, hc, hF⟩
/-- What 'Read' tells. -/
def DiskS.read (D : DiskS) (s : ByteArray) (k m : Int) : ByteArray × Int :=
  if (D.all s).2 ≠ 0 then (⟨#[]⟩, (D.all s).2) else if k < 0 ∨ m < 0 ∨ (D.all s).1.size < k ∨ (D.all s).1.size - k < m then (⟨#[]⟩, 2) else ((D.all s).1.extract k.toNat (k + m).toNat, 0)
theorem all_le (h : Good D) (s : ByteArray) : (D.all s).1.size ≤ 16777216 := by
  unfold DiskS.all
  split; exact Nat.zero_le _
  split
  · exact Nat.zero_le _
  · rename_i f hf; exact (h.file (find_some hf).1).1
set_option maxRecDepth 100000 in
set_option maxHeartbeats 1000000 in
theorem Read_ok (s : ByteArray) (k m : Int) (w : World) (h : DiskOk w p D F n) : Calls Try.prog 55 #[ptrTo p, .string s, .int .i64 k, .int .i64 m] w
    fun e w' => e = .returned (.tuple #[.string (D.read s k m).1, .int .i64 (D.read s k m).2]) ∧ Calm w w' := by
  have H := box (All_any w s h.lies)
  have hle := all_le h.good s
  obtain ⟨⟨x, y⟩, hxy⟩ : ∃ r, D.all s = r := ⟨_, rfl⟩
  have hr := box (show D.read s k m = if y ≠ 0 then (⟨#[]⟩, y) else if k < 0 ∨ m < 0 ∨ (x.size : Int) < k ∨ x.size - k < m then (⟨#[]⟩, 2) else (x.extract k.toNat (k + m).toNat, 0) by unfold DiskS.read; rw [hxy])
  rw [hxy] at H hle
  clear h hxy
  simp only at hle H
  by_cases hy : y = 0
  · subst hy
    by_cases hb : k < 0 ∨ m < 0 ∨ (x.size : Int) < k ∨ x.size - k < m
    · have hr := box (show D.read s k m = (⟨#[]⟩, 2) by rw [hr.out, if_neg (by decide), if_pos hb])
      rw [hr.out]
      have hb' : k < 0 ∨ (0 ≤ k ∧ m < 0) ∨ (0 ≤ k ∧ 0 ≤ m ∧ (x.size : Int) < k) ∨ (0 ≤ k ∧ 0 ≤ m ∧ k ≤ x.size ∧ x.size - k < m) := by omega
      clear hb
      rcases hb' with h1 | ⟨h0, h1⟩ | ⟨h0, h1, h2⟩ | ⟨h0, h1, h2, h3⟩
      all_goals
        go_enter Try.func55, Try.ntmps55
        go_wp2_with fail
        refine H.out.mono ?_
        rintro e w' ⟨rfl, hc⟩
        have hc := box hc
        go_wp2_with fail
        go_ret2
        exact ⟨rfl, hc.out⟩
    · have hr := box (show D.read s k m = (x.extract k.toNat (k + m).toNat, 0) by rw [hr.out, if_neg (by decide), if_neg hb])
      rw [hr.out]
      obtain ⟨i, rfl⟩ : ∃ i : Nat, k = i := ⟨k.toNat, by omega⟩
      obtain ⟨j, rfl⟩ : ∃ j : Nat, m = j := ⟨m.toNat, by omega⟩
      have b1 : decide ((x.size : Int) < i) = false := decide_eq_false (by omega)
      have b2 : decide ((x.size : Int) - i < j) = false := decide_eq_false (by omega)
      have b3 : decide (x.size < i) = false := decide_eq_false (by omega)
      have h4 : i + j ≤ x.size := by omega
      have hsl : ∀ W, (Instr.slice 9 (.string x) (some (.int .i64 (i : Int))) (some (.int .i64 ((i : Int) + j))) none).run Try.prog W = .ok (.string (x.extract (i : Int).toNat ((i : Int) + j).toNat)) W := fun W => run_slice_string _ _ _ _ _ _ _ Try.underlying9 (by omega) (by omega) (by omega)
      have hb0 : decide ((i : Int) < 0) = false := decide_eq_false (by omega)
      have hb9 : decide ((j : Int) < 0) = false := decide_eq_false (by omega)
      have q1 : IntKind.i64.wrap ((x.size : Int) - i) = x.size - i := IntWalk.i64_in _ (by omega)
      have q2 : IntKind.i64.wrap ((i : Int) + j) = i + j := IntWalk.i64_in _ (by omega)
      clear hb
      go_enter Try.func55, Try.ntmps55
      go_wp2_with fail
      refine H.out.mono ?_
      rintro e w' ⟨rfl, hc⟩
      have hc := box hc
      go_wp2_with fail
      go_ret2
      exact ⟨rfl, hc.out⟩
  · have hr := box (show D.read s k m = (⟨#[]⟩, y) by rw [hr.out, if_pos hy])
    rw [hr.out]
    have hy' : (y == 0) = false := by rw [beq_eq_false_iff_ne]; exact hy
    clear hy
    go_enter Try.func55, Try.ntmps55
    go_wp2_with fail
    refine H.out.mono ?_
    rintro e w' ⟨rfl, hc⟩
    have hc := box hc
    go_wp2_with fail
    go_ret2
    exact ⟨rfl, hc.out⟩
end
end Go.Proofs.Ytbmhjojlbmbpkaa.dk

/- Layer 4: crashes and calls as data, told of a disk that is good. -/
namespace Go.Proofs.Ytbmhjojlbmbpkaa.dk
open Go.ChangeShapes Go.WideShapes Go.ChangeAt Go.RowKit

section
variable {w w' : World} {p n : Nat} {D : DiskS} {F : Nat → Prop}
theorem Crash_ok (ka : Option Addr) (kcap : Nat) (keep : List Bool) (lack : Int) (w : World) (h : DiskOk w p D F n) (hn : n ≤ 1000000) (hk : BoolsAt w ka keep) (hap : Apart (.slice ka keep.length kcap) F) (hkc : keep.length ≤ kcap) (hkl : keep.length ≤ 1000000) :
    Calls Try.prog 19 #[ptrTo p, .agg #[.slice ka keep.length kcap, .int .i64 lack]] w fun e w' => e = .returned (.tuple #[]) ∧ ∃ F', DiskOk w' p (D.crashed keep lack) F' 0 ∧ Step F w F' w' :=
  (Crash_any ka kcap keep lack w h.lies hk hap hkc hkl (Nat.le_trans h.waits hn) (fun x hx => by have := h.good.wait h.form hx; omega) (fun f hf => by have := (h.good.file hf).2; omega)).mono fun _ _ ⟨he, F', hd, hs⟩ =>
    ⟨he, F', ⟨hd, (h.good.crashed _ _).1, Nat.le_refl _⟩, hs⟩
theorem Do_ok (o : OpS) (lv kv : Value) (w : World) (h : DiskOk w p D F n) (hn : n ≤ 1000000) (ho : OpIs w lv kv o) (hl : Apart lv F) (hk : Apart kv F) (hs : o.s.size ≤ 1000000000) (hll : o.l.length ≤ 4294967296) (hkl : o.keep.length ≤ 1000000) :
    Calls Try.prog 16 #[ptrTo p, .agg (opCells o lv kv).toArray] w fun e w' => ∃ b, w.heap.size ≤ b ∧ OkDone (D.does o b) p F (n + 1) w e w' :=
  (Do_any o lv kv w h.lies h.good ho hl hk (Nat.le_trans h.waits hn) hs hll hkl).mono fun _ _ ⟨b, F', hb, he, hd, hs⟩ =>
    ⟨b, hb, he, F', ⟨hd, h.good.does h.form o b (fun f hf e => by
      have : F f.blk := by obtain ⟨mb, wv, h1, rfl⟩ := h.lies; exact .inr (.inr (.inr (List.mem_map.2 ⟨f, hf, rfl⟩)))
      have := h.foot_lt _ this
      omega) ho.n, by
      have := h.waits
      unfold DiskS.does
      split; exact Nat.le_trans (create_waits _ _) (by omega)
      split; exact Nat.le_trans (write_waits _ _ _) (by omega)
      split; exact Nat.le_trans (sync_waits _) (by omega)
      split; exact Nat.le_trans (cut_waits _ _) (by omega)
      split; exact Nat.le_trans (rename_waits _ _) (by omega)
      split; exact Nat.le_trans (delete_waits _) (by omega)
      split; exact Nat.le_trans h.waits (by omega)
      split; exact Nat.zero_le _
      exact Nat.le_trans h.waits (by omega)⟩, hs⟩
end
end Go.Proofs.Ytbmhjojlbmbpkaa.dk

/- Layer 4's statements: the example; what is too great to be played. -/
namespace Go.Proofs.Ytbmhjojlbmbpkaa.dk
open Go.ChangeShapes Go.WideShapes Go.ChangeAt Go.RowKit

abbrev nF : ByteArray := ⟨#[102]⟩
abbrev nAB : ByteArray := ⟨#[97, 98]⟩
abbrev nCD : ByteArray := ⟨#[99, 100]⟩
def aw1 (b : Nat) : DiskS := ⟨-1, false, 100, [⟨nF, b, ⟨#[]⟩, ⟨#[]⟩⟩], []⟩
def aw2 (b : Nat) : DiskS := ⟨-1, false, 100, [⟨nF, b, ⟨#[]⟩, nAB⟩], [⟨b, 0, nAB⟩]⟩
def aw3 (b : Nat) : DiskS := ⟨-1, false, 100, [⟨nF, b, nAB, nAB⟩], []⟩
def aw4 (b : Nat) : DiskS := ⟨-1, false, 100, [⟨nF, b, nAB, ⟨#[97, 98, 99, 100]⟩⟩], [⟨b, 2, nCD⟩]⟩
theorem ae1 (b : Nat) : (new 100).create nF b = (0, aw1 b) := by rfl
theorem ae2 (b : Nat) : (aw1 b).write nF 0 nAB = (0, aw2 b) := by rfl
theorem ae3 (b : Nat) : (aw2 b).sync [nF] = (0, aw3 b) := by
  show (0, (⟨-1, false, 100, [⟨nF, b, nAB, nAB⟩], [(⟨b, 0, nAB⟩ : WaitS)].filter fun x => !decide (x.blk = b)⟩ : DiskS)) = _
  simp [aw3]
theorem ae4 (b : Nat) : (aw3 b).write nF 2 nCD = (0, aw4 b) := by rfl
theorem ae5 (b : Nat) : (aw4 b).crashed [] 0 = aw3 b := by rfl
theorem ae6 (b : Nat) : (aw3 b).all nF = (nAB, 0) := by rfl

theorem DiskOk.apart_new {w : World} {p n : Nat} {D : DiskS} {F : Nat → Prop} (h : DiskOk w p D F n) {m c : Nat} : Apart (.slice (some ⟨w.heap.size, 0, none⟩) m c) F := fun a _ _ e _ hf => by
  cases e
  have := h.foot_lt _ hf
  simp at this
theorem BoolsAt.nil {w : World} {a : Option Addr} : BoolsAt w a [] := fun k hk => absurd hk (Nat.not_lt_zero _)
theorem Apart.nil {F : Nat → Prop} {n c : Nat} : Apart (.slice none n c) F := fun _ _ _ h => by cases h
set_option maxRecDepth 100000 in
set_option maxHeartbeats 4000000 in
theorem awake_any (w : World) : Calls Try.prog 10 #[] w fun e w' => e = .returned (.bool true) ∧ Calm w w' := by
  go_enter Try.func10, Try.ntmps10
  go_wp2_with fail
  refine (New_ok _ 100).mono ?_
  rintro e w1 ⟨p, F, rfl, h1, hc1, hF1⟩
  have H1 := box h1
  have Hc1 := box hc1
  have HF1 := box hF1
  clear h1 hc1 hF1
  go_wp2_with fail
  refine (Create_ok nF _ H1.out).mono ?_
  rintro e w2 ⟨b, hb, h2⟩
  obtain ⟨rfl, F2, h2, hs2⟩ := h2.at (ae1 b)
  have H2 := box h2
  have Hs2 := box hs2
  clear h2 hs2 hb
  go_wp2_with fail
  refine (Write_ok nF nAB 0 _ H2.out (by decide) (by decide)).mono ?_
  intro e w3 h3
  obtain ⟨rfl, F3, h3, hs3⟩ := h3.at (ae2 b)
  have H3 := box h3
  have Hs3 := box (Hs2.out.trans hs3)
  clear h3 hs3
  go_wp2_with fail
  refine (Sync_ok (.slice (some ⟨w3.heap.size, 0, none⟩) 1 1) [nF] _ (H3.out.calm ((Calm.refl w3).alloc _)) (by decide) (StrsAt.one (by go_cell)) H3.out.apart_new (by decide)).mono ?_
  intro e w4 h4
  obtain ⟨rfl, F4, h4, hs4⟩ := h4.at (ae3 b)
  have H4 := box h4
  have Hs4 := box ((Hs3.out.calm ((Calm.refl w3).alloc (.cells #[.string nF] 9))).trans hs4)
  clear h4 hs4
  go_wp2_with fail
  refine (Write_ok nF nCD 2 _ H4.out (by decide) (by decide)).mono ?_
  intro e w5 h5
  obtain ⟨rfl, F5, h5, hs5⟩ := h5.at (ae4 b)
  have H5 := box h5
  have Hs5 := box (Hs4.out.trans hs5)
  clear h5 hs5
  go_wp2_with fail
  refine (Crash_ok none 0 [] 0 _ H5.out (by decide) .nil .nil (Nat.le_refl _) (by decide)).mono ?_
  rintro e w6 ⟨rfl, F6, h6, hs6⟩
  rw [ae5] at h6
  have H6 := box h6
  have Hs6 := box (Hs5.out.trans hs6)
  clear h6 hs6
  go_wp2_with fail
  refine (All_any _ nF H6.out.lies).mono ?_
  rw [ae6]
  rintro e w7 ⟨rfl, hc7⟩
  have Hc7 := box hc7
  clear hc7
  go_wp2_with fail
  go_ret
  exact ⟨rfl, Below.trans Hc1.out ((Hs6.out.calm Hc7.out).keeps.below Hc1.out.size HF1.out)⟩

theorem RowsAt_op {w : World} {v : Value} {l : List OpS} (h : RowsAt OpR 8 w v l) : ∃ a cap, v = .slice a l.length cap ∧ ∀ k (hk : k < l.length), ∃ b off lv kv, a = some ⟨b, off, none⟩ ∧ b < w.heap.size ∧ OpIs w lv kv l[k] ∧
    w.cell? ⟨b, off + k * 8, none⟩ = some (.int .i64 l[k].k) ∧ w.cell? ⟨b, off + k * 8 + 1, none⟩ = some (.int .i64 l[k].n) ∧ w.cell? ⟨b, off + k * 8 + 2, none⟩ = some (.string l[k].a) ∧ w.cell? ⟨b, off + k * 8 + 3, none⟩ = some (.string l[k].b) ∧
    w.cell? ⟨b, off + k * 8 + 4, none⟩ = some (.string l[k].s) ∧ w.cell? ⟨b, off + k * 8 + 5, none⟩ = some lv ∧ w.cell? ⟨b, off + k * 8 + 6, none⟩ = some kv ∧ w.cell? ⟨b, off + k * 8 + 7, none⟩ = some (.int .i64 l[k].lack) := by
  obtain ⟨a, cap, rfl, _, _, h4⟩ := h
  refine ⟨a, cap, rfl, fun k hk => ?_⟩
  obtain ⟨b, off, cs, e, hb, _, hcell, lv, kv, rfl, ho⟩ := h4 k hk
  exact ⟨b, off, lv, kv, e, hb, ho, hcell 0 (by omega), hcell 1 (by omega), hcell 2 (by omega), hcell 3 (by omega), hcell 4 (by omega), hcell 5 (by omega), hcell 6 (by omega), hcell 7 (by omega)⟩

def greatA (o : OpS) : Bool := decide (20 < o.a.size) || decide (20 < o.b.size) || decide (300 < o.s.size) || decide (10 < o.l.length) || decide (200 < o.keep.length)
def greatN (n : ByteArray) : Bool := decide (20 < n.size)
def greatO (o : OpS) : Bool := greatA o || o.l.any greatN
theorem greatO_a {o : OpS} (h : greatA o = true) : greatO o = true := by unfold greatO; rw [h]; rfl
theorem greatO_l {o : OpS} (k : Nat) (hk : k < o.l.length) (h : greatN o.l[k] = true) : greatO o = true := by unfold greatO; rw [Bool.or_eq_true]; exact .inr (List.any_eq_true.2 ⟨_, List.getElem_mem _, h⟩)
/-- Is it more than is played? -/
def great (l : List OpS) : Bool := decide (100 < l.length) || l.any greatO
theorem great_one {l : List OpS} (h : great l = false) (k : Nat) (hk : k < l.length) : l[k].s.size ≤ 300 ∧ l[k].l.length ≤ 10 ∧ l[k].keep.length ≤ 200 ∧ l[k].a.size ≤ 20 ∧ l[k].b.size ≤ 20 := by
  unfold great at h
  rw [Bool.or_eq_false_iff] at h
  have h2 := List.any_eq_false.1 h.2 _ (List.getElem_mem hk)
  simp only [greatO, greatA, Bool.or_eq_true, decide_eq_true_eq, not_or] at h2
  omega
theorem great_snoc (l : List OpS) (k : Nat) (hk : k < l.length) : (l.take (k + 1)).any greatO = ((l.take k).any greatO || greatO l[k]) := by
  rw [List.take_succ_eq_append_getElem hk, List.any_append]; simp
theorem great_yes (l : List OpS) (k : Nat) (hk : k < l.length) (h : greatO l[k] = true) : great l = true := by
  unfold great; rw [Bool.or_eq_true]; exact .inr (List.any_eq_true.2 ⟨l[k], List.getElem_mem _, h⟩)

set_option maxRecDepth 100000 in
set_option maxHeartbeats 4000000 in
theorem Great_any (v : Value) (l : List OpS) (w : World) (h : RowsAt OpR 8 w v l) (hm : l.length ≤ maxLen) :
    Calls Try.prog 11 #[v] w fun e w' => e = .returned (.bool (great l)) ∧ Calm w w' := by
  unfold maxLen at hm
  obtain ⟨a, cap, rfl, hops⟩ := RowsAt_op h
  have Hops := box hops
  clear h hops
  by_cases h100 : 100 < l.length
  · have hg := box (show great l = true by unfold great; rw [decide_eq_true h100]; rfl)
    go_enter Try.func11, Try.ntmps11
    go_wp2_with fail
    go_ret
    exact ⟨ret_bool hg.out.symm, .refl _⟩
  · go_enter Try.func11, Try.ntmps11
    go_wp2_with fail
    go_loopw [12] (fun i wr => ∃ k : Nat, k ≤ l.length ∧ i = .int .i64 k ∧ (l.take k).any greatO = false ∧ Calm w wr) (fun i _ => l.length - (intOf i).toNat)
    case atStart => exact ⟨0, Nat.zero_le _, rfl, rfl, .refl _⟩
    case round =>
      obtain ⟨k, hk, rfl, hno, hc⟩ := hrel
      have Hno := box hno
      have Hc := box hc
      clear hno hc
      by_cases hlt : k < l.length
      · obtain ⟨b, off, lv, kv, rfl, hb, ho, c0, c1, c2, c3, c4, c5, c6, c7⟩ := Hops.out k hlt
        have hsn := box (great_snoc l k hlt)
        have hyes := box (great_yes l k hlt)
        have d0 := (Hc.out.cell (p := ⟨b, off + k * 8, none⟩) hb).trans c0
        have d1 := (Hc.out.cell (p := ⟨b, off + k * 8 + 1, none⟩) hb).trans c1
        have d2 := (Hc.out.cell (p := ⟨b, off + k * 8 + 2, none⟩) hb).trans c2
        have d3 := (Hc.out.cell (p := ⟨b, off + k * 8 + 3, none⟩) hb).trans c3
        have d4 := (Hc.out.cell (p := ⟨b, off + k * 8 + 4, none⟩) hb).trans c4
        have d5 := (Hc.out.cell (p := ⟨b, off + k * 8 + 5, none⟩) hb).trans c5
        have d6 := (Hc.out.cell (p := ⟨b, off + k * 8 + 6, none⟩) hb).trans c6
        have d7 := (Hc.out.cell (p := ⟨b, off + k * 8 + 7, none⟩) hb).trans c7
        obtain ⟨o, ho'⟩ : ∃ o, l[k] = o := ⟨_, rfl⟩
        rw [ho'] at d0 d1 d2 d3 d4 d7 ho hsn hyes
        obtain ⟨ok, on, oa, ob, os, ol, okeep, olack⟩ := o
        obtain ⟨la, lcap, rfl, hlc⟩ := (ho.l.calm StrR.lasts Hc.out).strs.1.uni
        obtain ⟨ka, kcap, rfl, _, _⟩ := ho.keep
        have Hlc := box hlc
        have hbr : b < wr.heap.size := Nat.lt_of_lt_of_le hb Hc.out.size
        clear c0 c1 c2 c3 c4 c5 c6 c7 ho hlc ho'
        simp only at d0 d1 d2 d3 d4 d7
        go_wp2_with fail
        all_goals first
          | (go_ret; exact ⟨ret_bool (hyes.out (greatO_a (by simp only [greatA, Bool.or_eq_true, decide_eq_true_eq]; omega))).symm, Hc.out.alloc _⟩)
          | skip
        have ha : greatA ⟨ok, on, oa, ob, os, ol, okeep, olack⟩ = false := by
          rw [← Bool.not_eq_true]; simp only [greatA, Bool.or_eq_true, decide_eq_true_eq]; omega
        have Ha := box ha
        have hol : ol.length ≤ 10 := by omega
        clear ha
        obtain ⟨wo, hwo⟩ : ∃ wo : World, wo = wr := ⟨_, rfl⟩
        subst hwo
        go_loopw [48] (fun i wi => ∃ j : Nat, j ≤ ol.length ∧ i = .int .i64 j ∧ (ol.take j).any greatN = false ∧ Calm (wo.alloc (.cells #[.int .i64 ok, .int .i64 on, .string oa, .string ob, .string os, .slice la ol.length lcap, .slice ka okeep.length kcap, .int .i64 olack] 36)) wi) (fun i _ => ol.length - (intOf i).toNat)
        case atStart => exact ⟨0, Nat.zero_le _, rfl, rfl, .refl _⟩
        case round =>
          obtain ⟨j, hj, rfl, hno2, hc2⟩ := hrel
          have Hno2 := box hno2
          have Hc2 := box (((Calm.refl wo).alloc _).trans hc2)
          have Hc3 := box hc2
          clear hno2 hc2
          by_cases hlt2 : j < ol.length
          · obtain ⟨lb, loff, rfl, hlb, hlcell⟩ := Hlc.out j hlt2
            have hl2 := (Hc2.out.cell (p := ⟨lb, loff + j, none⟩) hlb).trans hlcell
            have hg1 := box (fun h => greatO_l (o := ⟨ok, on, oa, ob, os, ol, okeep, olack⟩) j hlt2 h)
            have hg2 := box (show (ol.take (j + 1)).any greatN = ((ol.take j).any greatN || greatN ol[j]) by rw [List.take_succ_eq_append_getElem hlt2, List.any_append]; simp)
            have hgd : ol.getD j ByteArray.empty = ol[j] := by rw [List.getD_eq_getElem?_getD, List.getElem?_eq_getElem hlt2]; rfl
            rw [hgd] at hl2
            obtain ⟨s, hs⟩ : ∃ s, ol[j] = s := ⟨_, rfl⟩
            simp only at hg1
            rw [hs] at hl2 hg1 hg2
            clear hs hgd hlcell d0 d1 d2 d3 d4 d5 d6 d7
            by_cases h20 : 20 < s.size
            · go_wp2_with fail
              go_ret
              exact ⟨ret_bool (hyes.out (hg1.out (by unfold greatN; exact decide_eq_true h20))).symm, Hc.out.trans Hc2.out⟩
            · have hn2 := box (show (ol.take (j + 1)).any greatN = false by rw [hg2.out, Hno2.out]; unfold greatN; rw [decide_eq_false h20]; rfl)
              go_wp2_with fail
              go_roundw
              case rel => exact ⟨j + 1, by omega, by go_num, hn2.out, Hc3.out⟩
              case measure => simp [intOf]; omega
          · obtain rfl : j = ol.length := by omega
            have hn3 := box (show (l.take (k + 1)).any greatO = false by
              have := Hno2.out
              rw [List.take_length] at this
              rw [hsn.out, Hno.out]; unfold greatO; rw [Ha.out, this]; rfl)
            clear d0 d1 d2 d3 d4 d5 d6 d7
            go_wp2_with fail
            go_roundw
            case rel => exact ⟨k + 1, by omega, by go_num, hn3.out, Hc.out.trans Hc2.out⟩
            case measure => simp [intOf]; omega
      · obtain rfl : k = l.length := by omega
        have hg := box (show great l = false by
          have := Hno.out
          rw [List.take_length] at this
          unfold great; rw [this, decide_eq_false h100]; rfl)
        go_wp2_with fail
        go_ret
        exact ⟨ret_bool hg.out.symm, Hc.out⟩
end Go.Proofs.Ytbmhjojlbmbpkaa.dk
