/-
  DERIVED: THE SHELF's CONTRACTS AT THIS DUMP, IN PLAIN WORDS (tools/lay-plain.mjs out of 'TryzIter6.lean', which tools/lay-shelf.mjs wrote): THE SAME DECLARATIONS UNDER THE SAME NAMES: 'import', 'namespace', 'open', 'def', 'theorem' AND NOTHING ELSE: no command of the shelf's: FOR A HAND-IN. Each laying: the table of numbers ('.._ren') and one theorem, a field a fact of the dump's own or the kernel's comparison; each contract: ONE APPLICATION.
-/
import Derived.Test.YtccbfekajbnehaaGreatRows
import Derived.WalkKit
import Derived.ProofKit
import Derived.OpenShut
import Derived.Handy
import Derived.Deep.LoopGhost
import Derived.Lib.Hide
import Derived.Lib.Strings
import Derived.SizedLaws
import Derived.Maps.Own
import Derived.Maps.OwnOps
import Derived.Maps.OwnSet
import Derived.Maps.RangeWalk
import Derived.Deep.QuietTactic
import Derived.BigQuiet
import Derived.Deep.RegionHeld3
import Derived.Lib.ConvBytes
import Derived.Lib.AppendZeros
import Derived.Lib.AppendZerosOnto
import Derived.Lib.LazyBuf
import Derived.Shelf.Abstract
import Derived.LaidEql
import Derived.Lib.SliceRun
import Derived.StillTailTactics
import Derived.Deep.Slices
import Derived.Shelf.Strings.Builder1
import Derived.Shelf.Small.Bits
import Derived.Shelf.Small.Wraps
import Derived.Shelf.Strings.BuilderF
import Derived.Shelf.Strings.BuilderK
import Derived.Shelf.Strconv.Itoa0
import Derived.Shelf.Sort.Plain
import Derived.Shelf.GgClosure.StringsIndexFunc
import Derived.Ground.GgwProg
import Derived.Shelf.GgClosure.StringsIndexFuncTop
import Derived.Shelf.GgClosure.StringsRunes
import Derived.Shelf.Strings.Prefix
import Derived.Shelf.Strings.BuilderCap
import Derived.Shelf.Slices.In.SortNone
import Derived.Ground.SlgfProg
import Derived.Shelf.SlicesE.IndexFunc
import Derived.Shelf.SlicesE.DeleteFunc
import Derived.Test.YtccbfekajbnehaaGreatProg
import Derived.Lib.DecodeN
import Derived.Shelf.SlicesQ.IndexFunc
import Derived.Shelf.SlicesE.Clone
import Derived.Ground.SlgnProg
import Derived.Test.YtccbfekajbnehaaGreatPk13
namespace Go.Proofs
open Go.Shelf
def Tryz.gContT_ren : Go.Shelf.Ren := ⟨fun | 8 => 69 | 6 => 92 | n => n, fun | 22 => 35 | 23 => 40 | 25 => 113 | 4 => 4 | 3 => 3 | 0 => 0 | n => n, fun | n => n⟩
theorem Tryz.gContT : Go.Proofs.SlLaysH0.n8 Tryz.prog Tryz.gContT_ren := {
  mixed := by kernel_rfl
  f6 := ⟨Tryz.f92.name, by decide, Tryz.func92.trans (congrArg some (by kernel_rfl))⟩
  f8 := ⟨Tryz.f69.name, by decide, Tryz.func69.trans (congrArg some (by kernel_rfl))⟩
  t0 := Tryz.underlying0
  a0 := Tryz.isAgg0
  z0 := Tryz.sizeOf0
  v0 := Tryz.zeroValue0
  t3 := Tryz.underlying3
  a3 := Tryz.isAgg3
  z3 := Tryz.sizeOf3
  v3 := Tryz.zeroValue3
  t4 := Tryz.underlying4
  a4 := Tryz.isAgg4
  z4 := Tryz.sizeOf4
  v4 := Tryz.zeroValue4
  t22 := Tryz.underlying35
  a22 := Tryz.isAgg35
  z22 := Tryz.sizeOf35
  v22 := Tryz.zeroValue35
  t25 := Tryz.underlying113
  a25 := Tryz.isAgg113
  z25 := Tryz.sizeOf113
  v25 := Tryz.zeroValue113 }
def Tryz.gCloneT_ren : Go.Shelf.Ren := ⟨fun | 41 => 39 | n => n, fun | 22 => 35 | 23 => 40 | 4 => 4 | n => n, fun | n => n⟩
theorem Tryz.gCloneT : Go.Proofs.SlLaysE0.n41 Tryz.prog Tryz.gCloneT_ren := {
  mixed := by kernel_rfl
  f41 := ⟨Tryz.f39.name, by decide, Tryz.func39.trans (congrArg some (by kernel_rfl))⟩
  t4 := Tryz.underlying4
  a4 := Tryz.isAgg4
  z4 := Tryz.sizeOf4
  v4 := Tryz.zeroValue4
  t22 := Tryz.underlying35
  a22 := Tryz.isAgg35
  z22 := Tryz.sizeOf35
  v22 := Tryz.zeroValue35 }
end Go.Proofs

/- Small lemmas for regions that draw their order and only read. -/
namespace Go.Proofs.YtccbfekajbnehaaGreat
open Go.ChangeShapes Go.WideShapes Go.ChangeAt Go.RowKit
theorem Calm.drewN {a w : World} (h : Calm a w) (n : Nat) : Calm a (w.drewN n) := ⟨h.os, h.tape, h.output, h.size, h.block⟩
end Go.Proofs.YtccbfekajbnehaaGreat

/- Rows of numbers: read, made by append, compared. -/
namespace Go.Proofs.YtccbfekajbnehaaGreat
open Go.ChangeShapes Go.WideShapes Go.ChangeAt Go.RowKit
open Go.Proofs.YtccbfekajbnehaaGreat.dk

/-- A slice value that reads as a list of numbers. -/
def IntsAt (w : World) (v : Value) (l : List Int) : Prop :=
  ∃ a cap, v = .slice a l.length cap ∧ (l.length ≤ maxLen ∧ l.length ≤ cap) ∧ ∀ k (hk : k < l.length), ∃ b off, a = some ⟨b, off, none⟩ ∧ b < w.heap.size ∧ w.cell? ⟨b, off + k, none⟩ = some (.int .i64 l[k])
theorem IntsAt.calm {w w' : World} {v : Value} {l : List Int} (h : IntsAt w v l) (hc : Calm w w') : IntsAt w' v l := by
  obtain ⟨a, cap, h1, h2, h4⟩ := h
  refine ⟨a, cap, h1, h2, fun k hk => ?_⟩
  obtain ⟨b, off, e, hb, hcell⟩ := h4 k hk
  exact ⟨b, off, e, Nat.lt_of_lt_of_le hb hc.size, by rw [hc.cell (p := ⟨b, off + k, none⟩) hb]; exact hcell⟩

/-- All its blocks lie from B on. -/
def From (B : Nat) (v : Value) : Prop := ∀ b, v.ownBlock = some b → B ≤ b
theorem ints_keep {w w' : World} {v : Value} {l : List Int} {B : Nat} {F : Nat → Prop} (h : IntsAt w v l) (hv : From B v) (k : Keeps F w w') (hF : ∀ b, F b → b < B) : IntsAt w' v l := by
  obtain ⟨a, cap, rfl, h2, h4⟩ := h
  refine ⟨a, cap, rfl, h2, fun j hj => ?_⟩
  obtain ⟨b, off, rfl, hb, hcell⟩ := h4 j hj
  have hB := hv b rfl
  refine ⟨b, off, rfl, Nat.lt_of_lt_of_le hb k.size, ?_⟩
  rw [World.cell?_of_block (w := w) (a := ⟨b, off + j, none⟩) (k.block b hb (fun hf => by have := hF b hf; omega))]
  exact hcell
theorem RowsAt.ints {w : World} {v : Value} {l : List Int} (h : RowsAt (IntR .i64) 1 w v l) : IntsAt w v l ∧ ∀ x ∈ l, -9223372036854775808 ≤ x ∧ x ≤ 9223372036854775807 := by
  obtain ⟨a, cap, rfl, h2, h3, h4⟩ := h
  refine ⟨⟨a, cap, rfl, by omega, fun k hk => ?_⟩, fun x hx => ?_⟩
  · obtain ⟨b, off, cs, e, hb, hl, hcell, hr, _⟩ := h4 k hk
    subst hr
    have := hcell 0 (by omega)
    simp only [Nat.mul_one, Nat.add_zero] at this
    exact ⟨b, off, e, hb, this⟩
  · obtain ⟨i, hi, rfl⟩ := List.mem_iff_getElem.1 hx
    obtain ⟨_, _, _, _, _, _, _, _, hr⟩ := h4 i hi
    exact hr
abbrev intRow (l : List Int) : List Value := l.map fun n => .int .i64 n
theorem own_ints {w : World} {base : Nat} {v : Value} {l : List Int} (h : w.ownsRow base 3 1 v l.length (intRow l)) (hl : l.length ≤ 1000000) : IntsAt w v l ∧ From base v := by
  refine ⟨?_, fun b hb => (h.lt b hb).1⟩
  rcases h.2 with ⟨rfl, hn⟩ | ⟨g, cap, cur, rfl, hb, hg, hnc, hcm, hcs, htake⟩
  · have : l = [] := List.eq_nil_of_length_eq_zero hn
    subst this
    exact ⟨none, 0, rfl, ⟨Nat.zero_le _, Nat.zero_le _⟩, fun k hk => absurd hk (Nat.not_lt_zero _)⟩
  · refine ⟨_, cap, rfl, by omega, fun k hk => ⟨g, 0, rfl, heap_lt hg, ?_⟩⟩
    have := h.cells (g := g) rfl k (.int .i64 l[k]) (by simp [intRow, hk])
    rw [add_lit] at this
    rw [Nat.zero_add]
    exact this
theorem own_calm {w w' : World} {base n : Nat} {v : Value} {e : TypeId} {size : Nat} {xs : List Value} (h : w.ownsRow base e size v n xs) (hc : Calm w w') : w'.ownsRow base e size v n xs :=
  row_same h (fun g hg => hc.block g (h.lt g hg).2)
theorem infoInt : (Tryz.prog.info? 3).map (fun i => (i.zero, i.size, i.bytes)) = some (some (.int .i64 0), 1, 8) := by kernel_rfl
/-- 'append(row, n)' onto a row of one's own. -/
theorem append_int (w : World) (base : Nat) (v : Value) (l : List Int) (x : Int) (h : w.ownsRow base 3 1 v l.length (intRow l)) (hbase : base ≤ w.heap.size) (hl : l.length ≤ 1000000) (ty : TypeId) :
    ∃ v' w', (Builtin.append_ #[132, 132] ty #[v, .slice (some ⟨w.heap.size, 0, none⟩) 1 1]).run Tryz.prog (w.alloc (.cells #[.int .i64 x] 3)) = .ok v' w' ∧
      w'.ownsRow base 3 1 v' (l ++ [x]).length (intRow (l ++ [x])) ∧ Keeps (base ≤ ·) w w' := by
  obtain ⟨i0, hi, hz0, hz1, hz2⟩ := info_parts infoInt
  have hb := heap_new w (.cells #[.int .i64 x] 3)
  obtain ⟨v', w', h1, h2, h3, _⟩ := run_append_own (P := Tryz.prog) (w.alloc (.cells #[.int .i64 x] 3)) base 132 ty 3 i0 _ 1 8 Tryz.underlying132 hi hz0 hz1 hz2 (by kernel_rfl) (by decide) v l.length _ (h.alloc _) ⟨w.heap.size, 0, none⟩ 1 1 [.int .i64 x] rfl (fun j u hj => by
      rw [add_lit, cell_of hb]
      match j, hj with
      | 0, hj => exact hj
      | k + 1, hj => simp at hj) (fun u hu => by
      rcases List.mem_cons.1 hu with rfl | hu
      · rfl
      cases hu) (by simp only [maxLen]; omega) (by omega) (by rw [World.size_alloc]; omega)
  refine ⟨v', w', h1, ?_, ?_⟩
  · simpa [intRow] using h2
  · exact ((Keeps.refl (base ≤ ·) w).alloc _).grown h3 (fun k hk => .inl (h.lt k hk).1)

/-- A pair of numbers. -/
def PairR (k : IntKind) : Reads (Int × Int) := fun _ cs x => cs = [.int k x.1, .int k x.2] ∧ (k.min ≤ x.1 ∧ x.1 ≤ k.max) ∧ k.min ≤ x.2 ∧ x.2 ≤ k.max
theorem PairR.lasts (k : IntKind) : (PairR k).Lasts := fun _ _ _ _ h _ => h
theorem opens_pair {P : Program} {t e : TypeId} {k : IntKind} (ht : P.underlying t = some (.array 2 e)) (he : P.underlying e = some (.int k)) (hc : P.cellsOf e = 1) (hc2 : P.cellsOf t = 2) : Opens P t (PairR k) := fun H enc w base sp held fuel cs x h => by
  obtain ⟨xs, m, _, _, hlen, hxl, hg⟩ := DataW.trod_array ht h
  rw [hc2] at hlen
  rw [hc] at hg
  match cs, hlen with
  | [c0, c1], _ =>
    have g0 := hg 0 (by decide)
    have g1 := hg 1 (by decide)
    rw [List.getElem?_eq_getElem (by omega)] at g0 g1
    obtain ⟨a, ha, ha2⟩ := opens_int he _ _ _ _ _ _ _ _ _ g0
    obtain ⟨b, hb, hb2⟩ := opens_int he _ _ _ _ _ _ _ _ _ g1
    simp at ha hb
    exact ⟨(a, b), by rw [ha, hb], ha2, hb2⟩
theorem RowsAt.pairs {k : IntKind} {w : World} {v : Value} {l : List (Int × Int)} (h : RowsAt (PairR k) 2 w v l) : ∃ a cap, v = .slice a l.length cap ∧ l.length ≤ maxLen ∧ ∀ i (hi : i < l.length), ∃ b off, a = some ⟨b, off, none⟩ ∧ b < w.heap.size ∧
    w.cell? ⟨b, off + i * 2, none⟩ = some (.int k l[i].1) ∧ w.cell? ⟨b, off + i * 2 + 1, none⟩ = some (.int k l[i].2) ∧ (k.min ≤ l[i].1 ∧ l[i].1 ≤ k.max) ∧ k.min ≤ l[i].2 ∧ l[i].2 ≤ k.max := by
  obtain ⟨a, cap, rfl, h2, h3, h4⟩ := h
  refine ⟨a, cap, rfl, by omega, fun i hi => ?_⟩
  obtain ⟨b, off, cs, e, hb, hl, hcell, hr, hm⟩ := h4 i hi
  subst hr
  exact ⟨b, off, e, hb, hcell 0 (by omega), hcell 1 (by omega), hm⟩
theorem RowsAt.nums {k : IntKind} {w : World} {v : Value} {l : List Int} (h : RowsAt (IntR k) 1 w v l) : ∃ a cap, v = .slice a l.length cap ∧ l.length ≤ maxLen ∧ ∀ i (hi : i < l.length), ∃ b off, a = some ⟨b, off, none⟩ ∧ b < w.heap.size ∧
    w.cell? ⟨b, off + i, none⟩ = some (.int k l[i]) ∧ k.min ≤ l[i] ∧ l[i] ≤ k.max := by
  obtain ⟨a, cap, rfl, h2, h3, h4⟩ := h
  refine ⟨a, cap, rfl, by omega, fun i hi => ?_⟩
  obtain ⟨b, off, cs, e, hb, hl, hcell, hr, hm⟩ := h4 i hi
  subst hr
  have := hcell 0 (by omega)
  simp only [Nat.mul_one, Nat.add_zero] at this
  exact ⟨b, off, e, hb, this, hm⟩

end Go.Proofs.YtccbfekajbnehaaGreat

/- A row of numbers of one's own, in a variable that a closure captures. -/
namespace Go.Proofs.YtccbfekajbnehaaGreat
open Go.ChangeShapes Go.WideShapes Go.ChangeAt Go.RowKit
open Go.Proofs.YtccbfekajbnehaaGreat.dk

theorem row_base {w : World} {e : TypeId} {size n B : Nat} {v : Value} {xs : List Value} (h : w.ownsRow 0 e size v n xs) (hb : ∀ g, v.ownBlock = some g → B ≤ g) : w.ownsRow B e size v n xs := by
  refine ⟨h.1, ?_⟩
  rcases h.2 with h2 | ⟨g, cap, cur, rfl, _, h3⟩
  · exact .inl h2
  · exact .inr ⟨g, cap, cur, rfl, hb g rfl, h3⟩
theorem row_zero {w : World} {e : TypeId} {size n B : Nat} {v : Value} {xs : List Value} (h : w.ownsRow B e size v n xs) : w.ownsRow 0 e size v n xs := by
  refine ⟨h.1, ?_⟩
  rcases h.2 with h2 | ⟨g, cap, cur, rfl, _, h3⟩
  · exact .inl h2
  · exact .inr ⟨g, cap, cur, rfl, Nat.zero_le _, h3⟩
/-- 'append(row, n)': in place, or in a new block. -/
theorem append_int2 (w : World) (base : Nat) (v : Value) (l : List Int) (x : Int) (h : w.ownsRow base 3 1 v l.length (intRow l)) (hbase : base ≤ w.heap.size) (hl : l.length ≤ 1000000) (ty : TypeId) :
    ∃ v' w', (Builtin.append_ #[132, 132] ty #[v, .slice (some ⟨w.heap.size, 0, none⟩) 1 1]).run Tryz.prog (w.alloc (.cells #[.int .i64 x] 3)) = .ok v' w' ∧
      w'.ownsRow base 3 1 v' (l ++ [x]).length (intRow (l ++ [x])) ∧ Keeps (fun g => v.ownBlock = some g) w w' ∧ ∀ g, v'.ownBlock = some g → v.ownBlock = some g ∨ w.heap.size ≤ g := by
  obtain ⟨i0, hi, hz0, hz1, hz2⟩ := info_parts infoInt
  have hb := heap_new w (.cells #[.int .i64 x] 3)
  obtain ⟨v', w', h1, h2, h3, h4⟩ := append_own (P := Tryz.prog) (w.alloc (.cells #[.int .i64 x] 3)) 132 ty 3 i0 _ 1 8 Tryz.underlying132 hi hz0 hz1 hz2 (by kernel_rfl) (by decide) v l.length _ (row_zero (h.alloc _)) ⟨w.heap.size, 0, none⟩ 1 1 (by decide) [.int .i64 x] rfl (fun j u hj => by
      rw [add_lit, cell_of hb]
      match j, hj with
      | 0, hj => exact hj
      | k + 1, hj => simp at hj) (fun u hu => by
      rcases List.mem_cons.1 hu with rfl | hu
      · rfl
      cases hu) (by simp only [maxLen]; omega) (by omega)
  have hg : ∀ g, v'.ownBlock = some g → v.ownBlock = some g ∨ w.heap.size ≤ g := fun g hg => by
    rcases h4 with h4 | h4
    · exact .inl (h4.symm.trans hg)
    · rw [h4] at hg
      cases hg
      exact .inr (by simp)
  refine ⟨v', w', h1, ?_, ?_, hg⟩
  · refine row_base ?_ (fun g e => ?_)
    · simpa [intRow] using h2
    · rcases hg g e with hg | hg
      · exact (h.lt g hg).1
      · omega
  · exact (((Keeps.refl (fun g => v.ownBlock = some g) w).alloc _).trans' (h3.mono (fun b _ h => h)))

/-- A variable of its own holds a row of numbers of its own. -/
structure OutIs (W : World) (blk B : Nat) (out : List Int) (G : Nat → Prop) : Prop where
  cell : ∃ v, W.heap[blk]? = some (.cells #[v] 132 (0, 0)) ∧ W.ownsRow B 3 1 v out.length (intRow out) ∧ ∀ b, G b ↔ b = blk ∨ v.ownBlock = some b
theorem OutIs.calm {W W' : World} {blk B : Nat} {out : List Int} {G : Nat → Prop} (h : OutIs W blk B out G) (hc : Calm W W') : OutIs W' blk B out G := by
  obtain ⟨v, h1, h2, h3⟩ := h.cell
  exact ⟨v, heap_calm hc h1, own_calm h2 hc, h3⟩
theorem OutIs.lt {W : World} {blk B : Nat} {out : List Int} {G : Nat → Prop} (h : OutIs W blk B out G) : ∀ b, G b → b < W.heap.size := fun b hb => by
  obtain ⟨v, h1, h2, h3⟩ := h.cell
  rcases (h3 b).1 hb with rfl | hb
  · exact heap_lt h1
  · exact (h2.lt b hb).2
theorem OutIs.made (w : World) : OutIs (w.alloc (.cells #[.slice none 0 0] 132)) w.heap.size w.heap.size [] (fun b => b = w.heap.size) :=
  ⟨.slice none 0 0, heap_new _ _, World.ownsRow_nil _ _ _ _, fun b => by simp [Value.ownBlock]⟩
theorem out_ne {W : World} {blk B : Nat} {v : Value} {out : List Int} (h1 : W.heap[blk]? = some (.cells #[v] 132 (0, 0))) (h2 : W.ownsRow B 3 1 v out.length (intRow out)) : v.ownBlock ≠ some blk := fun e => by
  obtain ⟨cur, hc⟩ := own_row h2 e
  rw [h1] at hc
  simp at hc
/-- What the run of 'out = append(out, x)' through a pointer leaves. -/
theorem out_append {W w2 : World} {blk B : Nat} {v v' : Value} {out : List Int} {x : Int} {G : Nat → Prop} (h1 : W.heap[blk]? = some (.cells #[v] 132 (0, 0))) (h2 : W.ownsRow B 3 1 v out.length (intRow out)) (h3 : ∀ b, G b ↔ b = blk ∨ v.ownBlock = some b)
    (hr : w2.ownsRow B 3 1 v' (out ++ [x]).length (intRow (out ++ [x]))) (hk : Keeps (fun g => v.ownBlock = some g) W w2) (hg : ∀ g, v'.ownBlock = some g → v.ownBlock = some g ∨ W.heap.size ≤ g) :
    w2.cell? ⟨blk, 0, none⟩ = some v ∧ w2.frozen? ⟨blk, 0, none⟩ = false ∧ blk < w2.heap.size ∧ OutIs (w2.setCell ⟨blk, 0, none⟩ v') blk B (out ++ [x]) (fun b => b = blk ∨ v'.ownBlock = some b) ∧ Step G W (fun b => b = blk ∨ v'.ownBlock = some b) (w2.setCell ⟨blk, 0, none⟩ v') := by
  have hne := out_ne h1 h2
  have hb := (hk.block blk (heap_lt h1) (fun e => hne e)).trans h1
  have hset := heap_set hb 0 v'
  have hne' : v'.ownBlock ≠ some blk := fun e => by
    rcases hg blk e with h | h
    · exact hne h
    · have := heap_lt h1; omega
  refine ⟨cell_of hb 0, free_of hb 0, heap_lt hb, ⟨v', hset, ?_, fun b => Iff.rfl⟩, ⟨?_, fun b hb => ?_⟩⟩
  · exact row_same hr (fun g e => heap_set_other (fun e2 => hne' (by rw [← e2]; exact e)) 0 v')
  · exact (hk.mono (fun b _ h => (h3 b).2 (.inr h))).setCell (p := ⟨blk, 0, none⟩) (.inl ((h3 blk).2 (.inl rfl))) v'
  · rcases hb with rfl | hb
    · exact .inl ((h3 _).2 (.inl rfl))
    · rcases hg b hb with h | h
      · exact .inl ((h3 b).2 (.inr h))
      · exact .inr h
theorem OutIs.ints {W : World} {blk B : Nat} {out : List Int} {G : Nat → Prop} (h : OutIs W blk B out G) (hl : out.length ≤ 1000000) : ∃ a n cap, W.cell? ⟨blk, 0, none⟩ = some (.slice a n cap) ∧ IntsAt W (.slice a n cap) out ∧ From B (.slice a n cap) ∧ blk < W.heap.size := by
  obtain ⟨v, h1, h2, h3⟩ := h.cell
  obtain ⟨i1, i2⟩ := own_ints h2 hl
  obtain ⟨a, cap, rfl, _⟩ := id i1
  exact ⟨a, _, cap, cell_of h1 0, i1, i2, heap_lt h1⟩
end Go.Proofs.YtccbfekajbnehaaGreat

/- Layer 13: rows of topics; may a topic be added? -/
namespace Go.Proofs.YtccbfekajbnehaaGreat.tp
open Go.ChangeShapes Go.WideShapes Go.ChangeAt Go.RowKit
open Go.Proofs.YtccbfekajbnehaaGreat.dk Go.Proofs.YtccbfekajbnehaaGreat.nm

structure TopS where
  name : ByteArray
  queues : Int
instance : Inhabited TopS := ⟨⟨⟨#[]⟩, 0⟩⟩
def encT (x : TopS) : List Value := [.string x.name, .int .i64 x.queues]
theorem encT_length (x : TopS) : (encT x).length = 2 := rfl
theorem encT_get : ∀ (L : List TopS) (j : Nat) (hj : j < L.length), (L.flatMap encT)[j * 2]? = some (.string L[j].name) ∧ (L.flatMap encT)[j * 2 + 1]? = some (.int .i64 L[j].queues)
  | x :: L, 0, _ => ⟨rfl, rfl⟩
  | x :: L, j + 1, hj => by
    have := encT_get L j (by simpa using hj)
    simp only [List.flatMap_cons, List.getElem_cons_succ]
    have e : ∀ k, (encT x ++ L.flatMap encT)[(j + 1) * 2 + k]? = (L.flatMap encT)[j * 2 + k]? := fun k => by
      rw [List.getElem?_append_right (by simp [encT]; omega)]; congr 1; simp [encT]; omega
    have e0 := e 0
    simp only [Nat.add_zero] at e0
    rw [e0, e 1]; exact this
theorem encT_flat (l : List TopS) : (l.flatMap encT).length = l.length * 2 := by
  induction l with
  | nil => rfl
  | cons a l ih => simp [encT, ih]; omega
/-- A slice value that reads as a list of topics. -/
def TopsAt (w : World) (v : Value) (l : List TopS) : Prop := ∃ a cap, v = .slice a l.length cap ∧ (a = none ∨ ∃ b off, a = some ⟨b, off, none⟩) ∧ ∀ i (hi : i < l.length), ∃ b off, a = some ⟨b, off, none⟩ ∧ b < w.heap.size ∧ w.cell? ⟨b, off + i * 2, none⟩ = some (.string l[i].name) ∧ w.cell? ⟨b, off + i * 2 + 1, none⟩ = some (.int .i64 l[i].queues)
theorem TopsAt.keep {w w' : World} {v : Value} {l : List TopS} {F : Nat → Prop} (h : TopsAt w v l) (k : Keeps F w w') (hx : ∀ b, v.ownBlock = some b → ¬ F b) : TopsAt w' v l := by
  obtain ⟨a, cap, rfl, hp, hc⟩ := h
  refine ⟨a, cap, rfl, hp, fun i hi => ?_⟩
  obtain ⟨b, off, rfl, hb, c0, c1⟩ := hc i hi
  have hk := k.block b hb (hx b rfl)
  have e : ∀ o, w'.cell? ⟨b, o, none⟩ = w.cell? ⟨b, o, none⟩ := fun o => by unfold World.cell?; rw [hk]
  exact ⟨b, off, rfl, Nat.lt_of_lt_of_le hb k.size, by rw [e]; exact c0, by rw [e]; exact c1⟩
theorem TopsAt.calm {w w' : World} {v : Value} {l : List TopS} (h : TopsAt w v l) (hc : Calm w w') : TopsAt w' v l := h.keep (F := fun _ => False) (.of_calm hc) (fun _ _ h => h)
abbrev topRow (B : Nat) (w : World) (v : Value) (l : List TopS) : Prop := w.ownsRow B 40 2 v l.length (l.flatMap encT)
theorem topRow.tops {B : Nat} {w : World} {v : Value} {l : List TopS} (h : topRow B w v l) : TopsAt w v l := by
  rcases h.2 with ⟨rfl, hn⟩ | ⟨g, cap, cur, rfl, hb, hg, hnc, hcm, hcs, htake⟩
  · exact ⟨none, 0, by rw [hn], .inl rfl, fun i hi => by omega⟩
  · refine ⟨_, cap, rfl, .inr ⟨g, 0, rfl⟩, fun i hi => ⟨g, 0, rfl, heap_lt hg, ?_⟩⟩
    have hc : ∀ j u, (l.flatMap encT)[j]? = some u → w.cell? ⟨g, j, none⟩ = some u := fun j u hj => by
      have := h.cells (g := g) rfl j u hj
      rwa [add_lit] at this
    obtain ⟨h0, h1⟩ := encT_get l i hi
    rw [Nat.zero_add]
    exact ⟨hc _ _ h0, hc _ _ h1⟩
theorem infoTop : (Tryz.prog.info? 40).map (fun i => (i.zero, i.size, i.bytes)) = some (some (.agg #[.string ⟨#[]⟩, .int .i64 0]), 2, 24) := by kernel_rfl
theorem append_top (B : Nat) (w : World) (v : Value) (L : List TopS) (x : TopS) (h : topRow B w v L) (hB : B ≤ w.heap.size) (hl : L.length ≤ 1000000) (ty : TypeId) :
    ∃ v' w', (Builtin.append_ #[35, 35] ty #[v, .slice (some ⟨w.heap.size, 0, none⟩) 1 1]).run Tryz.prog (w.alloc (.cells #[.string x.name, .int .i64 x.queues] 40)) = .ok v' w' ∧ topRow B w' v' (L ++ [x]) ∧
      Keeps (fun g => v.ownBlock = some g) w w' := by
  obtain ⟨i0, hi, hz0, hz1, hz2⟩ := info_parts infoTop
  have hb := heap_new w (.cells #[.string x.name, .int .i64 x.queues] 40)
  obtain ⟨v', w', h1, h2, h3, h4⟩ := append_own (P := Tryz.prog) (w.alloc (.cells #[.string x.name, .int .i64 x.queues] 40)) 35 ty 40 i0 _ 2 24 Tryz.underlying35 hi hz0 hz1 hz2 (by kernel_rfl) (by decide) v L.length _ (row_zero (h.alloc _)) ⟨w.heap.size, 0, none⟩ 1 1 (by decide) (encT x) rfl (fun j u hj => by
      rw [add_lit, cell_of hb]
      match j, hj with
      | 0, hj => exact hj
      | 1, hj => exact hj
      | k + 2, hj => simp [encT] at hj) (fun u hu => by
      rcases List.mem_cons.1 hu with rfl | hu
      · rfl
      rcases List.mem_cons.1 hu with rfl | hu
      · rfl
      cases hu) (by simp only [maxLen]; omega) (by omega)
  refine ⟨v', w', h1, ?_, ?_⟩
  · show w'.ownsRow B _ 2 v' (L ++ [x]).length ((L ++ [x]).flatMap encT)
    refine row_base ?_ (fun g e => ?_)
    rotate_left
    · rcases h4 with h4 | h4
      · exact (h.lt g (h4.symm.trans e)).1
      · rw [h4] at e; cases e; simp; omega
    rw [List.flatMap_append, List.length_append]
    simpa using h2
  · exact (((Keeps.refl (fun g => v.ownBlock = some g) w).alloc _).trans' (h3.mono (fun b _ h => h)))
set_option maxRecDepth 100000 in
/-- A copy of its own. -/
theorem Clone_any (v : Value) (l : List TopS) (w : World) (h : TopsAt w v l) (hl : l.length ≤ 1000000) :
    Calls Tryz.prog 39 #[v] w fun e w' => ∃ v', e = .returned v' ∧ topRow w.heap.size w' v' l ∧ Calm w w' := by
  obtain ⟨a, cap, rfl, hp, hc⟩ := h
  obtain ⟨i0, hi, hz0, hz1, hz2⟩ := info_parts infoTop
  rcases hp with rfl | ⟨b, off, rfl⟩
  · have hl0 : l = [] := by
      cases l with
      | nil => rfl
      | cons x l => obtain ⟨b, off, e, _⟩ := hc 0 (by simp); cases e
    subst hl0
    refine (AnyE.slices_Clone_nil Tryz.gCloneT 0 cap w).mono ?_
    rintro e w' ⟨rfl, rfl⟩
    exact ⟨_, rfl, World.ownsRow_nil _ _ _ _, .refl _⟩
  · refine (AnyE.slices_Clone Tryz.gCloneT i0 _ 2 24 hi hz0 hz1 hz2 rfl (by decide) Tryz.sizeOf40 b off l.length cap (l.flatMap encT) w (encT_flat l) (by unfold maxLen; omega) (by omega) (fun j u hj => ?_) (fun u hu => ?_)).mono ?_
    · have hjl : j < l.length * 2 := by
        rw [← encT_flat l]
        exact (List.getElem?_eq_some_iff.1 hj).1
      obtain ⟨b', off', e, _, c0, c1⟩ := hc (j / 2) (by omega)
      cases e
      obtain ⟨g0, g1⟩ := encT_get l (j / 2) (by omega)
      rcases Nat.mod_two_eq_zero_or_one j with hm | hm
      · rw [show j / 2 * 2 = j by omega] at c0 g0
        rw [g0] at hj; cases hj; exact c0
      · rw [show j / 2 * 2 + 1 = j by omega] at g1
        rw [Nat.add_assoc, show j / 2 * 2 + 1 = j by omega] at c1
        rw [g1] at hj; cases hj; exact c1
    · obtain ⟨x, _, hx⟩ := List.mem_flatMap.1 hu
      rcases List.mem_cons.1 hx with rfl | hx
      · rfl
      rcases List.mem_cons.1 hx with rfl | hx
      · rfl
      cases hx
    · rintro e w' ⟨v', rfl, hrow, _, hb⟩
      exact ⟨v', rfl, hrow, hb⟩

def hasT (l : List TopS) (n : ByteArray) : Bool := l.any fun x => decide (x.name = n)
/-- May it be added? -/
def rightC (l : List TopS) (t : TopS) : Int :=
  if plainB t.name = false then 11 else if t.queues < 1 ∨ 3 < t.queues then 1 else if hasT l t.name = true then 10 else if 6 ≤ l.length then 6 else 0
set_option maxRecDepth 100000 in
theorem there_any (B : Nat) (t x : TopS) (W : World) (hB : W.cell? ⟨B, 0, none⟩ = some (.string t.name)) (hlt : B < W.heap.size) :
    Calls Tryz.prog 67 #[.agg #[.string x.name, .int .i64 x.queues], ptrTo B] W fun e w' => e = .returned (.bool (decide (x.name = t.name))) ∧ Calm W w' := by
  have hc := (Calm.refl W).alloc (.cells #[.string x.name, .int .i64 x.queues] 40)
  have hn := heap_new W (.cells #[.string x.name, .int .i64 x.queues] 40)
  have c0 := cell_of hn 0
  have hB' := (hc.cell (p := ⟨B, 0, none⟩) hlt).trans hB
  have HC := box hc
  obtain ⟨xn, xq⟩ := x
  obtain ⟨tn, tq⟩ := t
  simp only at hB hB' c0 hn ⊢
  by_cases he : xn = tn
  · subst he
    rw [decide_eq_true rfl]
    go_enter Tryz.func67, Tryz.ntmps67
    go_wp2_with (first | go_quiet (fail) | fail)
    go_ret
    exact ⟨ret_bool (by simp), HC.out⟩
  · rw [decide_eq_false he]
    have hb1 : (xn.toList == tn.toList) = false := beq_eq_false_iff_ne.2 (fun e => he (ba_ext (by rw [← Lib.toList_data, ← Lib.toList_data]; exact e)))
    go_enter Tryz.func67, Tryz.ntmps67
    go_wp2_with (first | go_quiet (fail) | fail)
    go_ret
    exact ⟨ret_bool (by simp [hb1]), HC.out⟩
theorem hasT_any (v : Value) (l : List TopS) (t : TopS) (B : Nat) (w : World) (h : TopsAt w v l) (hl : l.length ≤ 1000000) (hB : w.cell? ⟨B, 0, none⟩ = some (.string t.name)) (hlt : B < w.heap.size) :
    Calls Tryz.prog 69 #[v, .func (.func 67) #[] #[ptrTo B]] w fun e w' => e = .returned (.bool (hasT l t.name)) ∧ Calm w w' := by
  obtain ⟨a, cap, rfl, _, hc⟩ := h
  by_cases h0 : 0 < l.length
  · obtain ⟨b, off, rfl, hb, _⟩ := hc 0 h0
    refine (AnyQ.slices_ContainsFunc Tryz.gContT 2 Tryz.isAgg40 Tryz.sizeOf40 encT encT_length (fun x => decide (x.name = t.name)) 67 #[ptrTo B] (enters_of Tryz.func67 (by kernel_rfl) rfl) b off l.length cap l w (fun W x hW => ?_) (Nat.le_refl _) (by omega) hb (fun j hj i u hu => ?_)).mono ?_
    · refine (there_any B t x W ((hW.cell (p := ⟨B, 0, none⟩) hlt).trans hB) (Nat.lt_of_lt_of_le hlt hW.size)).mono ?_
      rintro e w' ⟨rfl, hc'⟩
      exact ⟨rfl, Below.trans hW (hc'.mono hW.size)⟩
    · obtain ⟨b', off', e, _, c0, c1⟩ := hc j hj
      cases e
      rw [getElem!_pos l j hj] at hu
      match i, hu with
      | 0, hu => cases hu; exact c0
      | 1, hu => cases hu; exact c1
      | k + 2, hu => simp [encT] at hu
    · rintro e w' ⟨rfl, hb⟩
      rw [List.take_length]
      exact ⟨rfl, hb⟩
  · have hl0 : l = [] := List.eq_nil_of_length_eq_zero (by omega)
    subst hl0
    have hidx : ∀ W, Calls Tryz.prog 92 #[.slice a 0 cap, .func (.func 67) #[] #[ptrTo B]] W fun e w' => e = .returned (.int .i64 (-1)) ∧ W = w' := fun W => by
      go_enter Tryz.func92, Tryz.ntmps92
      go_wp2_with fail
      go_loopw [8] (fun i wr => i = .int .i64 0 ∧ wr = W) (fun _ _ => 0)
      case atStart => exact ⟨rfl, rfl⟩
      case round =>
        obtain ⟨rfl, rfl⟩ := hrel
        go_wp2_with fail
        go_ret
        exact ⟨rfl, rfl⟩
    have Hidx := box hidx
    clear hc hidx
    go_enter Tryz.func69, Tryz.ntmps69
    go_wp2_with fail
    refine (Hidx.out _).mono ?_
    rintro e w1 ⟨rfl, rfl⟩
    go_wp2_with fail
    go_ret
    exact ⟨rfl, .refl _⟩
set_option maxRecDepth 100000 in
set_option maxHeartbeats 4000000 in
theorem right_any (v : Value) (l : List TopS) (t : TopS) (w : World) (h : TopsAt w v l) (hl : l.length ≤ 1000000) :
    Calls Tryz.prog 38 #[v, .agg #[.string t.name, .int .i64 t.queues]] w fun e w' => e = .returned (.int .i64 (rightC l t)) ∧ Calm w w' := by
  have hc0 := (Calm.refl w).alloc (.cells #[.string t.name, .int .i64 t.queues] 40)
  have hn := heap_new w (.cells #[.string t.name, .int .i64 t.queues] 40)
  have hplain := box (fun W => Plain_any t.name W)
  have hcont := box (fun (W : World) (hW : Calm (w.alloc (.cells #[.string t.name, .int .i64 t.queues] 40)) W) => hasT_any v l t w.heap.size W (h.calm (hc0.trans hW)) hl ((hW.cell (p := ⟨w.heap.size, 0, none⟩) (heap_lt hn)).trans (cell_of hn 0)) (Nat.lt_of_lt_of_le (heap_lt hn) hW.size))
  obtain ⟨tn, tq⟩ := t
  simp only at hc0 hn hplain hcont ⊢
  have HC0 := box hc0
  have Hn := box hn
  obtain ⟨a, cap, rfl, _⟩ := h
  obtain ⟨p, hp⟩ : ∃ p, plainB tn = p := ⟨_, rfl⟩
  obtain ⟨q, hq⟩ : ∃ q, hasT l tn = q := ⟨_, rfl⟩
  have Hr := box (show rightC l ⟨tn, tq⟩ = if p = false then 11 else if tq < 1 ∨ 3 < tq then 1 else if q = true then 10 else if 6 ≤ l.length then 6 else 0 by unfold rightC; rw [← hp, ← hq])
  rw [hp] at hplain
  rw [hq] at hcont
  obtain ⟨c, hc⟩ : ∃ c, rightC l ⟨tn, tq⟩ = c := ⟨_, rfl⟩
  rw [hc] at Hr ⊢
  clear hp hq hc0 hn hc
  cases p
  · go_enter Tryz.func38, Tryz.ntmps38
    go_wp2_with fail
    refine (hplain.out _).mono ?_
    rintro e w1 ⟨rfl, hc1⟩
    have HC1 := box (HC0.out.trans hc1)
    clear hc1
    go_wp2_with fail
    go_ret
    exact ⟨ret_int (by rw [Hr.out]; rfl), HC1.out⟩
  · go_enter Tryz.func38, Tryz.ntmps38
    go_wp2_with fail
    refine (hplain.out _).mono ?_
    rintro e w1 ⟨rfl, hc1⟩
    have HC1 := box hc1
    have j1 := heap_calm hc1 Hn.out
    have r0 := cell_of j1 0
    have r1 := cell_of j1 1
    have jlt := heap_lt j1
    clear hc1 j1
    by_cases hq1 : tq < 1
    · go_wp2_with fail
      go_ret
      exact ⟨ret_int (by rw [Hr.out]; simp [hq1]), HC0.out.trans HC1.out⟩
    by_cases hq3 : 3 < tq
    · go_wp2_with fail
      go_ret
      exact ⟨ret_int (by rw [Hr.out]; simp [hq3]), HC0.out.trans HC1.out⟩
    go_wp2_with fail
    refine (hcont.out _ HC1.out).mono ?_
    rintro e w2 ⟨rfl, hc2⟩
    have HC2 := box (HC0.out.trans (HC1.out.trans hc2))
    clear hc2 r0 r1 jlt
    cases q
    · by_cases h6 : 6 ≤ l.length
      · go_wp2_with fail
        go_ret
        exact ⟨ret_int (by rw [Hr.out]; simp [hq1, hq3, h6]), HC2.out⟩
      · go_wp2_with fail
        go_ret
        exact ⟨ret_int (by rw [Hr.out]; simp [hq1, hq3, h6]), HC2.out⟩
    · go_wp2_with fail
      go_ret
      exact ⟨ret_int (by rw [Hr.out]; simp [hq1, hq3]), HC2.out⟩
end Go.Proofs.YtccbfekajbnehaaGreat.tp
