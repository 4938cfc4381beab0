/-
  DERIVED: THE SHELF's CONTRACTS AT THIS DUMP, IN PLAIN WORDS (tools/lay-plain.mjs out of 'TryIter5.lean', which tools/lay-shelf.mjs wrote): THE SAME DECLARATIONS UNDER THE SAME NAMES: 'import', 'namespace', 'open', 'def', 'theorem' AND NOTHING ELSE: no command of the shelf's: FOR A HAND-IN. Each laying: the table of numbers ('.._ren') and one theorem, a field a fact of the dump's own or the kernel's comparison; each contract: ONE APPLICATION.
-/
import Derived.Test.YtccbfekajbnehaaRows
import Derived.WalkKit
import Derived.ProofKit
import Derived.OpenShut
import Derived.Handy
import Derived.Deep.LoopGhost
import Derived.Lib.Hide
import Derived.Lib.Strings
import Derived.SizedLaws
import Derived.Maps.Own
import Derived.Maps.OwnOps
import Derived.Maps.OwnSet
import Derived.Maps.RangeWalk
import Derived.Deep.QuietTactic
import Derived.BigQuiet
import Derived.Deep.RegionHeld3
import Derived.Lib.ConvBytes
import Derived.Lib.AppendZeros
import Derived.Lib.AppendZerosOnto
import Derived.Lib.LazyBuf
import Derived.Shelf.Abstract
import Derived.LaidEql
import Derived.Lib.SliceRun
import Derived.StillTailTactics
import Derived.Deep.Slices
import Derived.Shelf.SlIter.Nil
import Derived.Ground.GgzProg
import Derived.Shelf.SortM.Plain
import Derived.Shelf.SortM.SortNone
import Derived.Ground.SlgmProg
import Derived.Shelf.SlicesE.DeleteFunc
import Derived.Ground.SlgfProg
import Derived.Test.YtccbfekajbnehaaProg
import Derived.Shelf.Strings.Builder1
import Derived.Shelf.Small.Bits
import Derived.Shelf.Strings.BuilderF
import Derived.Shelf.Strings.BuilderK
import Derived.Shelf.Strconv.Itoa0
import Derived.Shelf.Sort.Plain
import Derived.Shelf.Strings.Prefix
import Derived.Shelf.Strings.BuilderCap
import Derived.Shelf.Slices.In.SortNone
import Derived.Shelf.SlicesE.IndexFunc
import Derived.Laws.MakeOwn
import Derived.Lib.Builder
import Derived.Lib.AppendStr
import Derived.Shelf.SlicesQ.Reverse
import Derived.Ground.SlgnProg
import Derived.Test.YtccbfekajbnehaaPk16
namespace Go.Proofs
open Go.Shelf
def Try.gRev_ren : Go.Shelf.Ren := ⟨fun | 35 => 33 | n => n, fun | 22 => 31 | 23 => 36 | 3 => 3 | 4 => 4 | 0 => 0 | n => n, fun | n => n⟩
theorem Try.gRev : Go.Proofs.SlLaysE0.n35 Try.prog Try.gRev_ren := {
  mixed := by kernel_rfl
  f35 := ⟨Try.f33.name, by decide, Try.func33.trans (congrArg some (by kernel_rfl))⟩
  t0 := Try.underlying0
  a0 := Try.isAgg0
  z0 := Try.sizeOf0
  v0 := Try.zeroValue0
  t3 := Try.underlying3
  a3 := Try.isAgg3
  z3 := Try.sizeOf3
  v3 := Try.zeroValue3
  t4 := Try.underlying4
  a4 := Try.isAgg4
  z4 := Try.sizeOf4
  v4 := Try.zeroValue4
  t22 := Try.underlying31
  a22 := Try.isAgg31
  z22 := Try.sizeOf31
  v22 := Try.zeroValue31 }
end Go.Proofs

/- A row of numbers of one's own, in a variable that a closure captures. -/
namespace Go.Proofs.Ytccbfekajbnehaa
open Go.ChangeShapes Go.WideShapes Go.ChangeAt Go.RowKit
open Go.Proofs.Ytccbfekajbnehaa.dk

theorem row_base {w : World} {e : TypeId} {size n B : Nat} {v : Value} {xs : List Value} (h : w.ownsRow 0 e size v n xs) (hb : ∀ g, v.ownBlock = some g → B ≤ g) : w.ownsRow B e size v n xs := by
  refine ⟨h.1, ?_⟩
  rcases h.2 with h2 | ⟨g, cap, cur, rfl, _, h3⟩
  · exact .inl h2
  · exact .inr ⟨g, cap, cur, rfl, hb g rfl, h3⟩
theorem row_zero {w : World} {e : TypeId} {size n B : Nat} {v : Value} {xs : List Value} (h : w.ownsRow B e size v n xs) : w.ownsRow 0 e size v n xs := by
  refine ⟨h.1, ?_⟩
  rcases h.2 with h2 | ⟨g, cap, cur, rfl, _, h3⟩
  · exact .inl h2
  · exact .inr ⟨g, cap, cur, rfl, Nat.zero_le _, h3⟩
/-- 'append(row, n)': in place, or in a new block. -/
theorem append_int2 (w : World) (base : Nat) (v : Value) (l : List Int) (x : Int) (h : w.ownsRow base 3 1 v l.length (intRow l)) (hbase : base ≤ w.heap.size) (hl : l.length ≤ 1000000) (ty : TypeId) :
    ∃ v' w', (Builtin.append_ #[41, 41] ty #[v, .slice (some ⟨w.heap.size, 0, none⟩) 1 1]).run Try.prog (w.alloc (.cells #[.int .i64 x] 3)) = .ok v' w' ∧
      w'.ownsRow base 3 1 v' (l ++ [x]).length (intRow (l ++ [x])) ∧ Keeps (fun g => v.ownBlock = some g) w w' ∧ ∀ g, v'.ownBlock = some g → v.ownBlock = some g ∨ w.heap.size ≤ g := by
  obtain ⟨i0, hi, hz0, hz1, hz2⟩ := info_parts infoInt
  have hb := heap_new w (.cells #[.int .i64 x] 3)
  obtain ⟨v', w', h1, h2, h3, h4⟩ := append_own (P := Try.prog) (w.alloc (.cells #[.int .i64 x] 3)) 41 ty 3 i0 _ 1 8 Try.underlying41 hi hz0 hz1 hz2 (by kernel_rfl) (by decide) v l.length _ (row_zero (h.alloc _)) ⟨w.heap.size, 0, none⟩ 1 1 (by decide) [.int .i64 x] rfl (fun j u hj => by
      rw [add_lit, cell_of hb]
      match j, hj with
      | 0, hj => exact hj
      | k + 1, hj => simp at hj) (fun u hu => by
      rcases List.mem_cons.1 hu with rfl | hu
      · rfl
      cases hu) (by simp only [maxLen]; omega) (by omega)
  have hg : ∀ g, v'.ownBlock = some g → v.ownBlock = some g ∨ w.heap.size ≤ g := fun g hg => by
    rcases h4 with h4 | h4
    · exact .inl (h4.symm.trans hg)
    · rw [h4] at hg
      cases hg
      exact .inr (by simp)
  refine ⟨v', w', h1, ?_, ?_, hg⟩
  · refine row_base ?_ (fun g e => ?_)
    · simpa [intRow] using h2
    · rcases hg g e with hg | hg
      · exact (h.lt g hg).1
      · omega
  · exact (((Keeps.refl (fun g => v.ownBlock = some g) w).alloc _).trans' (h3.mono (fun b _ h => h)))

/-- A variable of its own holds a row of numbers of its own. -/
structure OutIs (W : World) (blk B : Nat) (out : List Int) (G : Nat → Prop) : Prop where
  cell : ∃ v, W.heap[blk]? = some (.cells #[v] 41 (0, 0)) ∧ W.ownsRow B 3 1 v out.length (intRow out) ∧ ∀ b, G b ↔ b = blk ∨ v.ownBlock = some b
theorem OutIs.calm {W W' : World} {blk B : Nat} {out : List Int} {G : Nat → Prop} (h : OutIs W blk B out G) (hc : Calm W W') : OutIs W' blk B out G := by
  obtain ⟨v, h1, h2, h3⟩ := h.cell
  exact ⟨v, heap_calm hc h1, own_calm h2 hc, h3⟩
theorem OutIs.lt {W : World} {blk B : Nat} {out : List Int} {G : Nat → Prop} (h : OutIs W blk B out G) : ∀ b, G b → b < W.heap.size := fun b hb => by
  obtain ⟨v, h1, h2, h3⟩ := h.cell
  rcases (h3 b).1 hb with rfl | hb
  · exact heap_lt h1
  · exact (h2.lt b hb).2
theorem OutIs.made (w : World) : OutIs (w.alloc (.cells #[.slice none 0 0] 41)) w.heap.size w.heap.size [] (fun b => b = w.heap.size) :=
  ⟨.slice none 0 0, heap_new _ _, World.ownsRow_nil _ _ _ _, fun b => by simp [Value.ownBlock]⟩
theorem out_ne {W : World} {blk B : Nat} {v : Value} {out : List Int} (h1 : W.heap[blk]? = some (.cells #[v] 41 (0, 0))) (h2 : W.ownsRow B 3 1 v out.length (intRow out)) : v.ownBlock ≠ some blk := fun e => by
  obtain ⟨cur, hc⟩ := own_row h2 e
  rw [h1] at hc
  simp at hc
/-- What the run of 'out = append(out, x)' through a pointer leaves. -/
theorem out_append {W w2 : World} {blk B : Nat} {v v' : Value} {out : List Int} {x : Int} {G : Nat → Prop} (h1 : W.heap[blk]? = some (.cells #[v] 41 (0, 0))) (h2 : W.ownsRow B 3 1 v out.length (intRow out)) (h3 : ∀ b, G b ↔ b = blk ∨ v.ownBlock = some b)
    (hr : w2.ownsRow B 3 1 v' (out ++ [x]).length (intRow (out ++ [x]))) (hk : Keeps (fun g => v.ownBlock = some g) W w2) (hg : ∀ g, v'.ownBlock = some g → v.ownBlock = some g ∨ W.heap.size ≤ g) :
    w2.cell? ⟨blk, 0, none⟩ = some v ∧ w2.frozen? ⟨blk, 0, none⟩ = false ∧ blk < w2.heap.size ∧ OutIs (w2.setCell ⟨blk, 0, none⟩ v') blk B (out ++ [x]) (fun b => b = blk ∨ v'.ownBlock = some b) ∧ Step G W (fun b => b = blk ∨ v'.ownBlock = some b) (w2.setCell ⟨blk, 0, none⟩ v') := by
  have hne := out_ne h1 h2
  have hb := (hk.block blk (heap_lt h1) (fun e => hne e)).trans h1
  have hset := heap_set hb 0 v'
  have hne' : v'.ownBlock ≠ some blk := fun e => by
    rcases hg blk e with h | h
    · exact hne h
    · have := heap_lt h1; omega
  refine ⟨cell_of hb 0, free_of hb 0, heap_lt hb, ⟨v', hset, ?_, fun b => Iff.rfl⟩, ⟨?_, fun b hb => ?_⟩⟩
  · exact row_same hr (fun g e => heap_set_other (fun e2 => hne' (by rw [← e2]; exact e)) 0 v')
  · exact (hk.mono (fun b _ h => (h3 b).2 (.inr h))).setCell (p := ⟨blk, 0, none⟩) (.inl ((h3 blk).2 (.inl rfl))) v'
  · rcases hb with rfl | hb
    · exact .inl ((h3 _).2 (.inl rfl))
    · rcases hg b hb with h | h
      · exact .inl ((h3 b).2 (.inr h))
      · exact .inr h
theorem OutIs.ints {W : World} {blk B : Nat} {out : List Int} {G : Nat → Prop} (h : OutIs W blk B out G) (hl : out.length ≤ 1000000) : ∃ a n cap, W.cell? ⟨blk, 0, none⟩ = some (.slice a n cap) ∧ IntsAt W (.slice a n cap) out ∧ From B (.slice a n cap) ∧ blk < W.heap.size := by
  obtain ⟨v, h1, h2, h3⟩ := h.cell
  obtain ⟨i1, i2⟩ := own_ints h2 hl
  obtain ⟨a, cap, rfl, _⟩ := id i1
  exact ⟨a, _, cap, cell_of h1 0, i1, i2, heap_lt h1⟩
end Go.Proofs.Ytccbfekajbnehaa

/- Layer 16: a row of marks: read, made by append, turned round. -/
namespace Go.Proofs.Ytccbfekajbnehaa.tl
open Go.ChangeShapes Go.WideShapes Go.ChangeAt Go.RowKit
open Go.Proofs.Ytccbfekajbnehaa.oc Go.Proofs.Ytccbfekajbnehaa.dk Go.Proofs.Ytccbfekajbnehaa.fl Go.Proofs.Ytccbfekajbnehaa.wh Go.Proofs.Ytccbfekajbnehaa.en

def encM (m : Mk) : List Value := [.int .i64 (m.rc.due : Int), .int .i64 (m.rc.place : Int), .int .i64 (m.ahead : Int), .int .i64 (m.rc.puts : Int)]
theorem encM_length (m : Mk) : (encM m).length = 4 := rfl
theorem encM_get : ∀ (L : List Mk) (i : Nat) (h : i < L.length), (L.flatMap encM)[i * 4]? = some (.int .i64 (L[i].rc.due : Int)) ∧ (L.flatMap encM)[i * 4 + 1]? = some (.int .i64 (L[i].rc.place : Int)) ∧ (L.flatMap encM)[i * 4 + 2]? = some (.int .i64 (L[i].ahead : Int)) ∧ (L.flatMap encM)[i * 4 + 3]? = some (.int .i64 (L[i].rc.puts : Int))
  | x :: L, 0, h => ⟨rfl, rfl, rfl, rfl⟩
  | x :: L, j + 1, h => by
    have := encM_get L j (by simpa using h)
    simp only [List.flatMap_cons, List.getElem_cons_succ]
    have e : ∀ k, (encM x ++ L.flatMap encM)[(j + 1) * 4 + k]? = (L.flatMap encM)[j * 4 + k]? := fun k => by
      rw [List.getElem?_append_right (by simp [encM]; omega)]; congr 1; simp [encM]; omega
    have e0 := e 0
    simp only [Nat.add_zero] at e0
    rw [e0, e 1, e 2, e 3]; exact this
abbrev mkRow (B : Nat) (w : World) (v : Value) (l : List Mk) : Prop := w.ownsRow B 36 4 v l.length (l.flatMap encM)
theorem mkRow.shape {B : Nat} {w : World} {v : Value} {l : List Mk} (h : mkRow B w v l) : ∃ a cap, v = .slice a l.length cap ∧ ∀ i (hi : i < l.length), ∃ b, a = some ⟨b, 0, none⟩ ∧ B ≤ b ∧ b < w.heap.size ∧
    w.cell? ⟨b, i * 4, none⟩ = some (.int .i64 (l[i].rc.due : Int)) ∧ w.cell? ⟨b, i * 4 + 1, none⟩ = some (.int .i64 (l[i].rc.place : Int)) ∧ w.cell? ⟨b, i * 4 + 2, none⟩ = some (.int .i64 (l[i].ahead : Int)) ∧ w.cell? ⟨b, i * 4 + 3, none⟩ = some (.int .i64 (l[i].rc.puts : Int)) := by
  rcases h.2 with ⟨rfl, hn⟩ | ⟨g, cap, cur, rfl, hb, hg, hnc, hcm, hcs, htake⟩
  · exact ⟨none, 0, by rw [hn], fun i hi => by omega⟩
  · refine ⟨_, cap, rfl, fun i hi => ⟨g, rfl, hb, heap_lt hg, ?_⟩⟩
    have hc : ∀ j u, (l.flatMap encM)[j]? = some u → w.cell? ⟨g, j, none⟩ = some u := fun j u hj => by
      have := h.cells (g := g) rfl j u hj
      rwa [add_lit] at this
    obtain ⟨h0, h1, h2, h3⟩ := encM_get l i hi
    exact ⟨hc _ _ h0, hc _ _ h1, hc _ _ h2, hc _ _ h3⟩
theorem infoMark : (Try.prog.info? 36).map (fun i => (i.zero, i.size, i.bytes)) = some (some (.agg #[.int .i64 0, .int .i64 0, .int .i64 0, .int .i64 0]), 4, 32) := by kernel_rfl
theorem append_mark (B : Nat) (w : World) (v : Value) (L : List Mk) (x : Mk) (h : mkRow B w v L) (hB : B ≤ w.heap.size) (hl : L.length ≤ 1000000) (ty : TypeId) :
    ∃ v' w', (Builtin.append_ #[31, 31] ty #[v, .slice (some ⟨w.heap.size, 0, none⟩) 1 1]).run Try.prog (w.alloc (.cells #[.int .i64 (x.rc.due : Int), .int .i64 (x.rc.place : Int), .int .i64 (x.ahead : Int), .int .i64 (x.rc.puts : Int)] 36)) = .ok v' w' ∧ mkRow B w' v' (L ++ [x]) ∧
      Keeps (fun g => v.ownBlock = some g) w w' ∧ ∀ g, v'.ownBlock = some g → v.ownBlock = some g ∨ w.heap.size ≤ g := by
  obtain ⟨i0, hi, hz0, hz1, hz2⟩ := info_parts infoMark
  have hb := heap_new w (.cells #[.int .i64 (x.rc.due : Int), .int .i64 (x.rc.place : Int), .int .i64 (x.ahead : Int), .int .i64 (x.rc.puts : Int)] 36)
  obtain ⟨v', w', h1, h2, h3, h4⟩ := append_own (P := Try.prog) (w.alloc (.cells #[.int .i64 (x.rc.due : Int), .int .i64 (x.rc.place : Int), .int .i64 (x.ahead : Int), .int .i64 (x.rc.puts : Int)] 36)) 31 ty 36 i0 _ 4 32 Try.underlying31 hi hz0 hz1 hz2 (by kernel_rfl) (by decide) v L.length _ (row_zero (h.alloc _)) ⟨w.heap.size, 0, none⟩ 1 1 (by decide) (encM x) rfl (fun j u hj => by
      rw [add_lit, cell_of hb]
      match j, hj with
      | 0, hj => exact hj
      | 1, hj => exact hj
      | 2, hj => exact hj
      | 3, hj => exact hj
      | k + 4, hj => simp [encM] at hj) (fun u hu => by
      rcases List.mem_cons.1 hu with rfl | hu
      · rfl
      rcases List.mem_cons.1 hu with rfl | hu
      · rfl
      rcases List.mem_cons.1 hu with rfl | hu
      · rfl
      rcases List.mem_cons.1 hu with rfl | hu
      · rfl
      cases hu) (by simp only [maxLen]; omega) (by omega)
  have hg : ∀ g, v'.ownBlock = some g → v.ownBlock = some g ∨ w.heap.size ≤ g := fun g hg => by
    rcases h4 with h4 | h4
    · exact .inl (h4.symm.trans hg)
    · rw [h4] at hg
      cases hg
      exact .inr (by simp)
  refine ⟨v', w', h1, ?_, ?_, hg⟩
  · show w'.ownsRow B _ 4 v' (L ++ [x]).length ((L ++ [x]).flatMap encM)
    refine row_base ?_ (fun g e => ?_)
    rotate_left
    · rcases hg g e with hg | hg
      · exact (h.lt g hg).1
      · omega
    rw [List.flatMap_append, List.length_append]
    simpa using h2
  · exact (((Keeps.refl (fun g => v.ownBlock = some g) w).alloc _).trans' (h3.mono (fun b _ h => h)))
end Go.Proofs.Ytccbfekajbnehaa.tl

/- Layer 16: a row of marks turned round. -/
namespace Go.Proofs.Ytccbfekajbnehaa.tl
open Go.ChangeShapes Go.WideShapes Go.ChangeAt Go.RowKit
open Go.Proofs.Ytccbfekajbnehaa.oc Go.Proofs.Ytccbfekajbnehaa.dk Go.Proofs.Ytccbfekajbnehaa.fl Go.Proofs.Ytccbfekajbnehaa.wh Go.Proofs.Ytccbfekajbnehaa.en
open Go.Sort

instance : Inhabited Mk := ⟨⟨⟨0, 0, 0⟩, 0⟩⟩
/-- A slice value that reads as a list of marks. -/
def MarksAt (w : World) (v : Value) (l : List Mk) : Prop := ∃ a cap, v = .slice a l.length cap ∧ ∀ i (hi : i < l.length), ∃ b, a = some ⟨b, 0, none⟩ ∧ b < w.heap.size ∧
    w.cell? ⟨b, i * 4, none⟩ = some (.int .i64 (l[i].rc.due : Int)) ∧ w.cell? ⟨b, i * 4 + 1, none⟩ = some (.int .i64 (l[i].rc.place : Int)) ∧ w.cell? ⟨b, i * 4 + 2, none⟩ = some (.int .i64 (l[i].ahead : Int)) ∧ w.cell? ⟨b, i * 4 + 3, none⟩ = some (.int .i64 (l[i].rc.puts : Int))
theorem flat_at (L : List Mk) (j : Nat) (hj : j < L.length * 4) : (L.flatMap encM)[j]? = some ((encM L.toArray[j / 4]!)[j % 4]!) := by
  have hi : j / 4 < L.length := by omega
  obtain ⟨h0, h1, h2, h3⟩ := encM_get L (j / 4) hi
  have hg : L.toArray[j / 4]! = L[j / 4] := by rw [getElem!_pos L.toArray (j / 4) (by simpa using hi)]; simp
  rw [hg]
  have hm : j % 4 = 0 ∨ j % 4 = 1 ∨ j % 4 = 2 ∨ j % 4 = 3 := by omega
  rcases hm with hm | hm | hm | hm
  · rw [hm]; rw [show j / 4 * 4 = j by omega] at h0; rw [h0]; rfl
  · rw [hm]; rw [show j / 4 * 4 + 1 = j by omega] at h1; rw [h1]; rfl
  · rw [hm]; rw [show j / 4 * 4 + 2 = j by omega] at h2; rw [h2]; rfl
  · rw [hm]; rw [show j / 4 * 4 + 3 = j by omega] at h3; rw [h3]; rfl
theorem row_holds {B g cap : Nat} {w : World} {L : List Mk} (h : mkRow B w (.slice (some ⟨g, 0, none⟩) L.length cap) L) (hne : 0 < L.length) : HoldsK encM 4 w g 0 L.toArray := fun j hj => by
  rw [size_flatK] at hj
  have hj' : j < L.length * 4 := by simpa using hj
  rw [get_flatK _ _ _ _ hj, Nat.zero_add]
  have hc := h.cells (g := g) rfl j _ (flat_at L j hj')
  rw [add_lit] at hc
  refine ⟨by simpa using hc, ?_⟩
  rcases h.2 with ⟨h2, h3⟩ | ⟨g', cap', cur, h2, h3, h4, h5⟩
  · omega
  · cases h2
    exact free_of h4 j
theorem one_cell : ∀ (x : Mk), ∀ v ∈ encM x, v.oneCell' = true := fun x v hv => by
  simp only [encM, List.mem_cons, List.not_mem_nil, or_false] at hv
  rcases hv with rfl | rfl | rfl | rfl <;> rfl
theorem rev_any {B : Nat} (v : Value) (L : List Mk) (w : World) (h : mkRow B w v L) (hl : L.length ≤ 1000000) :
    Calls Try.prog 33 #[v] w fun e w' => e = .returned (.tuple #[]) ∧ MarksAt w' v L.reverse ∧ Keeps (fun g => v.ownBlock = some g) w w' := by
  rcases id h.2 with ⟨rfl, hn⟩ | ⟨g, cap, cur, rfl, hb, hg, hnc, hcm, hcs, htake⟩
  · obtain rfl : L = [] := List.eq_nil_of_length_eq_zero hn
    refine (AnyQ.slices_Reverse_empty Try.gRev none 0 w).mono ?_
    rintro e w' ⟨rfl, rfl⟩
    exact ⟨rfl, ⟨none, 0, rfl, fun i hi => absurd hi (Nat.not_lt_zero _)⟩, .refl _ _⟩
  · have hlt := heap_lt hg
    by_cases hne : 0 < L.length
    · have hH := row_holds h hne
      refine (AnyQ.slices_Reverse Try.gRev 4 Try.isAgg36 Try.sizeOf36 encM encM_length one_cell g 0 cap L.toArray w hH (by simp; omega)).mono ?_
      rintro e w' ⟨rfl, n, rfl⟩
      have hH2 := holdsK_putRowK encM 4 (Sort.ahead w n) g 0 L.toArray L.toArray.reverse (holdsK_ahead encM 4 w n g 0 L.toArray hH) (by simp)
      refine ⟨rfl, ⟨_, cap, by rw [List.length_reverse], fun i hi => ⟨g, rfl, ?_, ?_⟩⟩, ⟨rfl, rfl, rfl, ?_, fun k hk hF => ?_⟩⟩
      · simpa [putRowK, putRow, mapBlock, Sort.ahead] using hlt
      · have hi2 : i < L.toArray.reverse.size := by simpa using hi
        have hx : L.toArray.reverse[i]! = L.reverse[i] := by rw [getElem!_pos _ i hi2]; simp
        have c0 := (hH2.cell hi2 (c := 0) (by decide)).1
        have c1 := (hH2.cell hi2 (c := 1) (by decide)).1
        have c2 := (hH2.cell hi2 (c := 2) (by decide)).1
        have c3 := (hH2.cell hi2 (c := 3) (by decide)).1
        rw [hx, Nat.zero_add] at c0 c1 c2 c3
        exact ⟨c0, c1, c2, c3⟩
      · simp [putRowK, putRow, mapBlock, Sort.ahead]
      · have hk : g ≠ k := fun e => hF (by rw [e]; rfl)
        simp [putRowK, putRow, mapBlock, Sort.ahead, Array.getElem?_modify, hk]
    · obtain rfl : L = [] := List.eq_nil_of_length_eq_zero (by omega)
      refine (AnyQ.slices_Reverse_empty Try.gRev (some ⟨g, 0, none⟩) cap w).mono ?_
      rintro e w' ⟨rfl, rfl⟩
      exact ⟨rfl, ⟨_, cap, rfl, fun i hi => absurd hi (Nat.not_lt_zero _)⟩, .refl _ _⟩
end Go.Proofs.Ytccbfekajbnehaa.tl

/- Layer 16: a slot's chain. -/
namespace Go.Proofs.Ytccbfekajbnehaa.tl
open Go.ChangeShapes Go.WideShapes Go.ChangeAt Go.RowKit
open Go.Proofs.Ytccbfekajbnehaa.oc Go.Proofs.Ytccbfekajbnehaa.dk Go.Proofs.Ytccbfekajbnehaa.fl Go.Proofs.Ytccbfekajbnehaa.wh Go.Proofs.Ytccbfekajbnehaa.en
section
variable {p q l n : Nat} {D : DiskS} {F : Nat → Prop} {E : List Mk} {H : List Nat}
set_option maxRecDepth 100000 in
set_option maxHeartbeats 4000000 in
theorem Chain_any (t : Int) (k : Nat) (hk : k < 16) (L : List Mk) (w : World) (h : Log w p q l n D F E H t) (hfew : E.length ≤ 400000) (hch : Ch E (H.getD k 0) L) :
    Calls Try.prog 19 #[ptrTo l, .int .i64 (k : Int)] w fun e w' => ∃ v, e = .returned (.tuple #[v, .int .i64 0]) ∧ MarksAt w' v L ∧ From w.heap.size v ∧ Calm w w' := by
  have hle := h.holds.head k
  have hw := h.holds.wheel.head k hk
  obtain ⟨g, hgg⟩ : ∃ g, H.getD k 0 = g := ⟨_, rfl⟩
  rw [hgg] at hle hw hch
  have Hch := box hch
  have HL := box h
  have hhd := box (fun (W : World) (hc : Calm w W) => (show Calls Try.prog 27 #[ptrTo q, .int .i64 (k : Int)] W fun e w' => e = .returned (.tuple #[.int .i64 (g : Int), .int .i64 0]) ∧ Calm W w' by
    have := Head_any q t (k : Int) W (HL.out.disk.calm hc) (HL.out.wheel.calm hc)
    rw [hw] at this
    exact this))
  obtain ⟨c0, c1, f0, f1, hlt⟩ := h.log.cells
  obtain ⟨d0, d1, e0, e1, elt⟩ := h.wheel.cells
  clear h hw hgg hch
  go_enter Try.func19, Try.ntmps19
  go_wp2_with fail
  refine (hhd.out _ (.refl _)).mono ?_
  rintro e w1 ⟨rfl, hc1⟩
  have Hc1 := box hc1
  clear hc1
  go_wp2_with fail
  go_loopw [6, 7, 8] (fun nv ev ov wr => ∃ (j : Nat) (rest back : List Mk), j ≤ E.length ∧ nv = .int .i64 j ∧ ev = .int .i64 0 ∧ Box (Ch E j rest ∧ L = rest ++ back.reverse) ∧ mkRow w.heap.size wr ov back ∧ Calm w wr) (fun nv _ _ _ => (intOf nv).toNat)
  case atStart => exact ⟨g, L, [], hle, rfl, rfl, box ⟨Hch.out, by simp⟩, World.ownsRow_nil _ _ _ _, Hc1.out⟩
  case round =>
    obtain ⟨j, rest, back, hj, rfl, rfl, Hbx, hrow, hc⟩ := hrel
    have Hrow := box hrow
    have HC := box hc
    have hlog := HL.out.calm hc
    have hbl : back.length ≤ 1000000 := by
      have h1 := congrArg List.length Hbx.out.2
      rw [List.length_append, List.length_reverse] at h1
      have h2 := Hch.out.few
      omega
    clear c0 c1 f0 f1 hlt d0 d1 e0 e1 elt hrow hc
    obtain ⟨c0, c1, f0, f1, hlt⟩ := hlog.log.cells
    obtain ⟨d0, d1, e0, e1, elt⟩ := hlog.wheel.cells
    obtain ⟨a, cap, hv, _⟩ := Hrow.out.shape
    subst hv
    cases j with
    | zero =>
      have hL : L = back.reverse := by rw [Hbx.out.2, Hbx.out.1.zero, List.nil_append]
      go_wp2_with fail
      refine (rev_any _ back _ Hrow.out hbl).mono ?_
      rintro e w2 ⟨rfl, hm, hkk⟩
      have Hm := box hm
      have Hkk := box hkk
      clear hm hkk
      go_wp2_with fail
      go_ret2
      exact ⟨_, rfl, by rw [hL]; exact Hm.out, fun b hb => (Hrow.out.lt b hb).1, Below.trans HC.out (Hkk.out.below HC.out.size (fun b hb => (Hrow.out.lt b hb).1))⟩
    | succ i =>
      obtain ⟨rest', hi, hrest, ha, hch'⟩ := Hbx.out.1.succ
      have hrd := box (Read_ok wmarks ((i : Int) * 20) 20 wr hlog.disk)
      rw [HL.out.holds.read i hi] at hrd
      have hok := HL.out.holds.ok _ (List.getElem_mem hi)
      have Hnew := box (show Ch E E[i].ahead rest' ∧ L = rest' ++ (back ++ [E[i]]).reverse from ⟨hch', by rw [Hbx.out.2, hrest]; simp⟩)
      obtain ⟨m, hm⟩ : ∃ m, E[i] = m := ⟨_, rfl⟩
      rw [hm] at hrd hok Hnew ha
      have hg4 := box (get4_mk hok)
      have hsz := box (show (⟨(mkB m).toArray⟩ : ByteArray).size = 20 by rw [fl.bytes_size, mkB_length])
      have hi1 : IntKind.i64.wrap (((i + 1 : Nat) : Int) - 1) = i := by rw [IntWalk.i64_in _ (by omega)]; omega
      have hi2 : ((i + 1 : Nat) : Int) - 1 = i := by omega
      have hi3 : IntKind.i64.wrap ((i : Int) * 20) = i * 20 := IntWalk.i64_in _ (by omega)
      clear hm hrest hch' hok
      go_wp2_with fail
      refine hrd.out.mono ?_
      rintro e1 w2 ⟨rfl, hc2⟩
      have Hc2 := box hc2
      clear hc2
      go_wp2_with fail
      refine (en.Mark_get ⟨(mkB m).toArray⟩ w2 (by rw [hsz.out]; decide)).mono ?_
      rw [hg4.out]
      rintro e2 w3 ⟨rfl, hc3⟩
      have Hc3 := box (Hc2.out.trans hc3)
      clear hc3
      have hsz3 := Nat.le_trans HC.out.size Hc3.out.size
      obtain ⟨v', W4, happ, hrow4, hk4, _⟩ := append_mark w.heap.size (w3.alloc (.cells #[.int .i64 (m.rc.due : Int), .int .i64 (m.rc.place : Int), .int .i64 (m.ahead : Int), .int .i64 (m.rc.puts : Int)] 36)) _ back m ((own_calm Hrow.out Hc3.out).alloc _) (by rw [World.size_alloc]; omega) hbl 31
      simp only [World.size_alloc] at happ
      have Happ := box happ
      have Hrow4 := box hrow4
      have Hk4 := box (hk4.below (B := w.heap.size) (by rw [World.size_alloc]; omega) (fun b hb => (Hrow.out.lt b hb).1))
      have j4 := (hk4.block _ (heap_lt (heap_new w3 _)) (fun e => by have := (Hrow.out.lt _ e).2; have := Hc3.out.size; omega)).trans (heap_new w3 (.cells #[.int .i64 (m.rc.due : Int), .int .i64 (m.rc.place : Int), .int .i64 (m.ahead : Int), .int .i64 (m.rc.puts : Int)] 36))
      have r2 := cell_of j4 2
      have jlt := heap_lt j4
      clear happ hrow4 hk4 j4
      go_wp2_with (first | (at_builtin; refine Lib.wpList_append_run _ rfl _ _ _ _ rfl _ _ rfl rfl _ _ Happ.out ?_) | fail)
      go_roundw
      case rel => exact ⟨m.ahead, rest', back ++ [m], by omega, rfl, rfl, Hnew, Hrow4.out, Below.trans (Below.alloc (Below.trans HC.out (Hc3.out.mono HC.out.size)) hsz3 _) Hk4.out⟩
      case measure => simp [intOf]; omega
end
end Go.Proofs.Ytccbfekajbnehaa.tl

/- Layer 16: plain laws: a slot is taken. -/
namespace Go.Proofs.Ytccbfekajbnehaa.tl
open Go.Proofs.Ytccbfekajbnehaa.oc Go.Proofs.Ytccbfekajbnehaa.dk Go.Proofs.Ytccbfekajbnehaa.fl Go.Proofs.Ytccbfekajbnehaa.wh Go.Proofs.Ytccbfekajbnehaa.en

theorem upd_get (R : Nat → List Rc) (k : Nat) (a : List Rc) : upd R k a k = a := if_pos rfl
theorem upd_upd (R : Nat → List Rc) (k : Nat) (a b : List Rc) : upd (upd R k a) k b = upd R k b := by
  funext j
  unfold upd
  by_cases h : j = k
  · rw [if_pos h, if_pos h]
  · rw [if_neg h, if_neg h, if_neg h]
theorem Ch.mem {E : List Mk} {n : Nat} {l : List Mk} (h : Ch E n l) : ∀ m ∈ l, m ∈ E := by
  induction h with
  | none => exact fun m hm => absurd hm List.not_mem_nil
  | more h ha _ ih =>
    intro x hx
    rcases List.mem_append.1 hx with hx | hx
    · exact ih x hx
    · rw [List.mem_singleton] at hx; subst hx; exact List.mem_of_getElem? h
theorem left_snoc (s : Nat) (l : List Rc) (r : Rc) : left s (l ++ [r]) = if soon s r then left s l else left s l ++ [r.again] := by
  unfold left
  rw [List.filter_append, List.map_append]
  cases h : soon s r
  · rw [List.filter_cons_of_pos (by simp [h])]; rfl
  · rw [List.filter_cons_of_neg (by simp [h])]; simp
theorem told_snoc (s : Nat) (l : List Rc) (r : Rc) : told s (l ++ [r]) = if soon s r then told s l ++ [r] else told s l := by
  unfold told
  rw [List.filter_append]
  cases h : soon s r
  · rw [List.filter_cons_of_neg (by simp [h])]; simp
  · rw [List.filter_cons_of_pos (by simp [h])]; rfl
/-- The marks, of those looked at so far, that are told. -/
def toldM (s : Nat) (l : List Mk) : List Mk := l.filter fun m => soon s m.rc
theorem toldM_snoc (s : Nat) (l : List Mk) (m : Mk) : toldM s (l ++ [m]) = if soon s m.rc then toldM s l ++ [m] else toldM s l := by
  unfold toldM
  rw [List.filter_append]
  cases h : soon s m.rc
  · rw [List.filter_cons_of_neg (by simp [h])]; simp
  · rw [List.filter_cons_of_pos (by simp [h])]; rfl
theorem toldM_rc (s : Nat) (l : List Mk) : (toldM s l).map Mk.rc = told s (l.map Mk.rc) := by
  unfold toldM told
  rw [List.filter_map]; rfl
theorem left_le (s : Nat) (l : List Rc) (i : Nat) : (left s (l.take i)).length ≤ (left s l).length := by
  unfold left
  rw [List.length_map, List.length_map]
  exact ((List.take_sublist i l).filter _).length_le
theorem told_le (s : Nat) (l : List Rc) : (told s l).length ≤ l.length := List.length_filter_le _ _
theorem toldM_le (s : Nat) (l : List Mk) : (toldM s l).length ≤ l.length := List.length_filter_le _ _
/-- How many wait in the first k slots. -/
def cnt (R : Nat → List Rc) : Nat → Nat
  | 0 => 0
  | k + 1 => cnt R k + (R k).length
def cntW (W : List (Nat × Nat)) : Nat → Nat
  | 0 => 0
  | k + 1 => cntW W k + (W.filter fun w => w.1 % 16 == k).length
theorem cntW_nil : ∀ k, cntW [] k = 0
  | 0 => rfl
  | k + 1 => by unfold cntW; rw [cntW_nil k]; rfl
theorem cntW_cons (w : Nat × Nat) (W : List (Nat × Nat)) : ∀ k, cntW (w :: W) k = cntW W k + if w.1 % 16 < k then 1 else 0
  | 0 => by rw [if_neg (Nat.not_lt_zero _)]; rfl
  | k + 1 => by
    unfold cntW
    rw [cntW_cons w W k]
    by_cases h : w.1 % 16 = k
    · rw [List.filter_cons_of_pos (p := fun w : Nat × Nat => w.1 % 16 == k) (beq_iff_eq.2 h), if_neg (show ¬ w.1 % 16 < k by omega), if_pos (show w.1 % 16 < k + 1 by omega), List.length_cons]; omega
    · rw [List.filter_cons_of_neg (p := fun w : Nat × Nat => w.1 % 16 == k) (by rw [beq_iff_eq]; exact h)]
      by_cases h2 : w.1 % 16 < k
      · rw [if_pos h2, if_pos (show w.1 % 16 < k + 1 by omega)]; omega
      · rw [if_neg h2, if_neg (show ¬ w.1 % 16 < k + 1 by omega)]; omega
theorem cntW_all : ∀ W : List (Nat × Nat), cntW W 16 = W.length
  | [] => cntW_nil 16
  | w :: W => by
    rw [cntW_cons, cntW_all W, if_pos (Nat.mod_lt _ (by decide)), List.length_cons]
theorem Waits.cnt {W : List (Nat × Nat)} {R : Nat → List Rc} {t : Nat} (h : Waits W R t) : ∀ k, k ≤ 16 → tl.cnt R k = cntW W k
  | 0, _ => rfl
  | k + 1, hk => by
    unfold tl.cnt cntW
    rw [h.cnt k (by omega), ← h.rows k (by omega), List.length_map]
theorem cntW_le (W : List (Nat × Nat)) (k : Nat) (h : k ≤ 16) : cntW W k ≤ W.length := by
  rw [← cntW_all W]
  suffices ∀ d, cntW W k ≤ cntW W (k + d) by
    have := this (16 - k)
    rwa [show k + (16 - k) = 16 by omega] at this
  intro d
  induction d with
  | zero => exact Nat.le_refl _
  | succ d ih => exact Nat.le_trans ih (Nat.le_add_right _ _)
end Go.Proofs.Ytccbfekajbnehaa.tl

/- Layer 16: a slot is taken. -/
namespace Go.Proofs.Ytccbfekajbnehaa.tl
open Go.ChangeShapes Go.WideShapes Go.ChangeAt Go.RowKit
open Go.Proofs.Ytccbfekajbnehaa.oc Go.Proofs.Ytccbfekajbnehaa.dk Go.Proofs.Ytccbfekajbnehaa.fl Go.Proofs.Ytccbfekajbnehaa.wh Go.Proofs.Ytccbfekajbnehaa.en
theorem MarksAt.keep {w w' : World} {v : Value} {L : List Mk} {F : Nat → Prop} (h : MarksAt w v L) (k : Keeps F w w') (hx : ∀ b, v.ownBlock = some b → ¬ F b) : MarksAt w' v L := by
  obtain ⟨a, cap, rfl, hc⟩ := h
  refine ⟨a, cap, rfl, fun i hi => ?_⟩
  obtain ⟨b, rfl, hb, c0, c1, c2, c3⟩ := hc i hi
  have hk := k.block b hb (hx b rfl)
  have e : ∀ o, w'.cell? ⟨b, o, none⟩ = w.cell? ⟨b, o, none⟩ := fun o => by unfold World.cell?; rw [hk]
  exact ⟨b, rfl, Nat.lt_of_lt_of_le hb k.size, by rw [e]; exact c0, by rw [e]; exact c1, by rw [e]; exact c2, by rw [e]; exact c3⟩
theorem MarksAt.calm {w w' : World} {v : Value} {L : List Mk} (h : MarksAt w v L) (hc : Calm w w') : MarksAt w' v L :=
  h.keep (F := fun _ => False) (.of_calm hc) (fun _ _ h => h)
theorem mkRow.keep {B : Nat} {w w' : World} {v : Value} {l : List Mk} {F : Nat → Prop} (h : mkRow B w v l) (k : Keeps F w w') (hx : ∀ b, v.ownBlock = some b → ¬ F b) : mkRow B w' v l :=
  row_same h (fun g e => k.block g (h.lt g e).2 (hx g e))
theorem mkRow.marks {B : Nat} {w : World} {v : Value} {l : List Mk} (h : mkRow B w v l) : MarksAt w v l := by
  obtain ⟨a, cap, rfl, hc⟩ := h.shape
  refine ⟨a, cap, rfl, fun i hi => ?_⟩
  obtain ⟨b, rfl, _, hb, c⟩ := hc i hi
  exact ⟨b, rfl, hb, c⟩

theorem MarksAt.lt {w : World} {v : Value} {L : List Mk} (h : MarksAt w v L) {i : Nat} (hi : i < L.length) {b : Nat} (hb : v.ownBlock = some b) : b < w.heap.size := by
  obtain ⟨a, cap, rfl, hc⟩ := h
  obtain ⟨b', rfl, hlt, _⟩ := hc i hi
  cases hb
  exact hlt
theorem _root_.Go.Proofs.Ytccbfekajbnehaa.Step.fresh {F G K : Nat → Prop} {a b c : World} (h : Step F a G b) (k : Keeps K b c) (hx : ∀ x, K x → a.heap.size ≤ x) : Step F a G c :=
  ⟨⟨k.os.trans h.keeps.os, k.tape.trans h.keeps.tape, k.output.trans h.keeps.output, Nat.le_trans h.keeps.size k.size, fun i hi hn =>
    (k.block i (Nat.lt_of_lt_of_le hi h.keeps.size) (fun hk => by have := hx i hk; omega)).trans (h.keeps.block i hi hn)⟩, h.foot⟩

/-- What stands when i marks of a taken row were looked at. -/
structure TkS (p q l n : Nat) (D : DiskS) (E : List Mk) (R : Nat → List Rc) (t : Int) (s : Nat) (F : Nat → Prop) (w : World) (L : List Mk) (av : Value) (i : Nat) (ov : Value) (wr : World) (n' : Nat) (D' : DiskS) (F' : Nat → Prop) (E' : List Mk) (H' : List Nat) : Prop where
  log : Log wr p q l n' D' F' E' H' t
  rows : Rows E' H' (upd R (s % 16) (left s ((L.take i).map Mk.rc)))
  len : E'.length = E.length + (left s ((L.take i).map Mk.rc)).length
  calls : n' ≤ n + 1 + 2 * (left s ((L.take i).map Mk.rc)).length
  cap : D'.cap = D.cap
  step : Step (fun b => F b ∨ b = l) w (fun b => F' b ∨ b = l) wr
  out : mkRow w.heap.size wr ov (toldM s (L.take i))
  oF : ∀ b, ov.ownBlock = some b → ¬ (F' b ∨ b = l)
  all : MarksAt wr av L
  aF : ∀ b, av.ownBlock = some b → ¬ (F' b ∨ b = l) ∧ ov.ownBlock ≠ some b
def TkR (p q l n : Nat) (D : DiskS) (E : List Mk) (R : Nat → List Rc) (t : Int) (s : Nat) (F : Nat → Prop) (w : World) (L : List Mk) (av : Value) (i : Nat) (ov : Value) (wr : World) : Prop :=
  ∃ n' D' F' E' H', TkS p q l n D E R t s F w L av i ov wr n' D' F' E' H'
section
variable {p q l n : Nat} {D : DiskS} {F : Nat → Prop} {E : List Mk} {H : List Nat} {R : Nat → List Rc} {t : Int} {s : Nat} {w : World} {L : List Mk} {av : Value} {i : Nat} {ov : Value} {wr : World}
theorem take_next (L : List Mk) (i : Nat) (hi : i < L.length) : L.take (i + 1) = L.take i ++ [L[i]] := by rw [List.take_succ_eq_append_getElem hi]
/-- One that is due is told. -/
theorem TkR.told (h : TkR p q l n D E R t s F w L av i ov wr) (hi : i < L.length) (hd : soon s L[i].rc = true) {W1 W2 : World} (hc : Calm wr W1) {ov' : Value} (hrow : mkRow w.heap.size W2 ov' (toldM s (L.take i) ++ [L[i]])) (hk : Keeps (fun g => ov.ownBlock = some g) W1 W2) (hg : ∀ g, ov'.ownBlock = some g → ov.ownBlock = some g ∨ W1.heap.size ≤ g) :
    TkR p q l n D E R t s F w L av (i + 1) ov' W2 := by
  obtain ⟨n', D', F', E', H', h⟩ := h
  have hlog := h.log.calm hc
  have hnf : ∀ b, F' b ∨ b = l → ¬ ov.ownBlock = some b := fun b hb e => h.oF b e hb
  have hls : (L.take (i + 1)).map Mk.rc = (L.take i).map Mk.rc ++ [L[i].rc] := by rw [take_next L i hi, List.map_append]; rfl
  have hl : left s ((L.take (i + 1)).map Mk.rc) = left s ((L.take i).map Mk.rc) := by rw [hls, left_snoc, if_pos hd]
  have ht : toldM s (L.take (i + 1)) = toldM s (L.take i) ++ [L[i]] := by rw [take_next L i hi, toldM_snoc, if_pos hd]
  have hnq : ¬ ov.ownBlock = some q := fun e => by
    have := h.out.lt q e
    obtain ⟨cur, hcur⟩ := own_row h.out e
    have hq := h.log.wheel
    unfold WheelAt at hq
    rw [hcur] at hq
    simp at hq
  refine ⟨n', D', F', E', H', ⟨hlog.disk.keep hk (fun b hb => hnf b (.inl hb)), h.log.holds, hlog.wheel.keep hk hnq, hlog.log.keep hk (hnf l (.inr rfl)), h.log.qF, h.log.lF, h.log.apart⟩, by rw [hl]; exact h.rows, by rw [hl]; exact h.len, by rw [hl]; exact h.calls, h.cap, ?_, by rw [ht]; exact hrow, fun b hb hf => ?_, (h.all.calm hc).keep hk (fun b hb => (h.aF b hb).2), fun b hb => ⟨(h.aF b hb).1, fun e => ?_⟩⟩
  · exact (h.step.calm hc).fresh hk (fun x e => (h.out.lt x e).1)
  · rcases hg b hb with h1 | h1
    · exact h.oF b h1 hf
    · rcases hf with hf | rfl
      · have := hlog.disk.foot_lt _ hf; omega
      · have := heap_lt hlog.log; omega
  · rcases hg b e with h1 | h1
    · exact (h.aF b hb).2 h1
    · have := h.all.lt hi hb; have := hc.size; omega
/-- One that is far is laid again. -/
theorem TkS.far {n' : Nat} {D' : DiskS} {F' : Nat → Prop} {E' : List Mk} {H' : List Nat} (h : TkS p q l n D E R t s F w L av i ov wr n' D' F' E' H') (hi : i < L.length) (hd : soon s L[i].rc = false) (hk : L[i].rc.due % 16 = s % 16) {W1 W2 : World} (hc : Calm wr W1) {e : Ending}
    (hl : LayDone p q l n' D' F' E' H' t L[i].rc.again W1 e W2) : e = .returned (.int .i64 0) ∧ TkR p q l n D E R t s F w L av (i + 1) ov W2 := by
  obtain ⟨rfl, D2, F2, h2, hcap, hs⟩ := hl
  have hls : (L.take (i + 1)).map Mk.rc = (L.take i).map Mk.rc ++ [L[i].rc] := by rw [take_next L i hi, List.map_append]; rfl
  have hlf : left s ((L.take (i + 1)).map Mk.rc) = left s ((L.take i).map Mk.rc) ++ [L[i].rc.again] := by rw [hls, left_snoc, if_neg (by rw [hd]; exact Bool.false_ne_true)]
  have ht : toldM s (L.take (i + 1)) = toldM s (L.take i) := by rw [take_next L i hi, toldM_snoc, if_neg (by rw [hd]; exact Bool.false_ne_true)]
  have hk' : L[i].rc.again.due % 16 = s % 16 := hk
  have hr := h.rows.laid L[i].rc.again
  rw [hk', upd_get, upd_upd] at hr
  rw [hk'] at h2
  have hcalls := h.calls
  have hlen := h.len
  have hkeep : Keeps (fun b => F' b ∨ b = l) wr W2 := (Keeps.of_calm (F := fun b => F' b ∨ b = l) hc).trans' hs.keeps
  have hfoot : ∀ b, b < wr.heap.size → F2 b ∨ b = l → F' b ∨ b = l := fun b hb hf => (hs.foot b hf).elim id (fun hx => by have := hc.size; omega)
  refine ⟨rfl, _, D2, F2, _, _, h2, by rw [hlf]; exact hr, by rw [hlf, List.length_append, List.length_append, List.length_singleton, List.length_singleton, hlen, Nat.add_assoc], by rw [hlf, List.length_append, List.length_singleton]; omega, hcap.trans h.cap, (h.step.calm hc).trans hs, by rw [ht]; exact h.out.keep hkeep h.oF, fun b hb hf => h.oF b hb (hfoot b (h.out.lt b hb).2 hf), h.all.keep hkeep (fun b hb => (h.aF b hb).1), fun b hb => ⟨fun hf => (h.aF b hb).1 (hfoot b (h.all.lt hi hb) hf), (h.aF b hb).2⟩⟩
end
end Go.Proofs.Ytccbfekajbnehaa.tl

/- Layer 16: Take. -/
namespace Go.Proofs.Ytccbfekajbnehaa.tl
open Go.ChangeShapes Go.WideShapes Go.ChangeAt Go.RowKit
open Go.Proofs.Ytccbfekajbnehaa.oc Go.Proofs.Ytccbfekajbnehaa.dk Go.Proofs.Ytccbfekajbnehaa.fl Go.Proofs.Ytccbfekajbnehaa.wh Go.Proofs.Ytccbfekajbnehaa.en
section
variable {p q l n : Nat} {D : DiskS} {F : Nat → Prop} {E : List Mk} {H : List Nat} {R : Nat → List Rc} {t : Int} {s : Nat} {w : World}
theorem _root_.Go.Proofs.Ytccbfekajbnehaa.Step.or {F G : Nat → Prop} {a b : World} (h : Step F a G b) (l : Nat) : Step (fun b => F b ∨ b = l) a (fun b => G b ∨ b = l) b :=
  ⟨h.keeps.mono (fun b _ hb => .inl hb), fun b hb => by
    rcases hb with hb | hb
    · rcases h.foot b hb with h | h
      · exact .inl (.inl h)
      · exact .inr h
    · exact .inl (.inr hb)⟩
/-- The log stands when only its disk was turned. -/
theorem Log.step {W W2 : World} {n2 : Nat} {D2 : DiskS} {F2 : Nat → Prop} {H2 : List Nat} (h : Log w p q l n D F E H t) (hc : Calm w W) (hd : DiskOk W2 p D2 F2 n2) (hh : LogD D2 E H2) (hs : Step F W F2 W2) : Log W2 p q l n2 D2 F2 E H2 t := by
  have h1 := h.calm hc
  have hql := heap_lt h1.wheel
  have hll := heap_lt h1.log
  exact ⟨hd, hh, h1.wheel.keep hs.keeps h.qF, h1.log.keep hs.keeps h.lF, fun hf => (hs.foot q hf).elim h.qF (fun hx => by omega), fun hf => (hs.foot l hf).elim h.lF (fun hx => by omega), h.apart⟩
def TakeDone (p q l n : Nat) (D : DiskS) (F : Nat → Prop) (E : List Mk) (R : Nat → List Rc) (t : Int) (s : Nat) (w : World) (e : Ending) (w' : World) : Prop :=
  ∃ v L n' D' F' E' H', e = .returned (.tuple #[v, .int .i64 0]) ∧ MarksAt w' v L ∧ L.map Mk.rc = told s (R (s % 16)) ∧ From w.heap.size v ∧ Log w' p q l n' D' F' E' H' t ∧ Rows E' H' (upd R (s % 16) (left s (R (s % 16)))) ∧
    E'.length = E.length + (left s (R (s % 16))).length ∧ n' ≤ n + 1 + 2 * (left s (R (s % 16))).length ∧ D'.cap = D.cap ∧ Step (fun b => F b ∨ b = l) w (fun b => F' b ∨ b = l) w'
theorem upd_self (R : Nat → List Rc) (k : Nat) : upd R k (R k) = R := by
  funext j
  unfold upd
  by_cases h : j = k
  · rw [if_pos h, h]
  · rw [if_neg h]
set_option maxRecDepth 100000 in
set_option maxHeartbeats 8000000 in
theorem Take_any (h : Log w p q l n D F E H t) (hR : Rows E H R) (hs : s ≤ 9000000000000000000) (hn : n + 2 * (left s (R (s % 16))).length + 1 ≤ 999990) (hfew : E.length + (left s (R (s % 16))).length ≤ 400000)
    (hcap : ((116 + 20 * (E.length + (left s (R (s % 16))).length) : Nat) : Int) ≤ D.cap) (hk : ∀ r ∈ R (s % 16), r.due % 16 = s % 16 ∧ r.puts + 1 < 65536) :
    Calls Try.prog 18 #[ptrTo l, .int .i64 (s : Int)] w (TakeDone p q l n D F E R t s w) := by
  have hk16 : s % 16 < 16 := Nat.mod_lt _ (by decide)
  obtain ⟨L, hch, hL⟩ := hR.row _ hk16
  have HL := box h
  have HR := box hR
  have hslot := box (fun W => slot_any s W hs)
  have hchain := box (Chain_any t _ hk16 L w h (by omega) hch)
  have hmem := box (fun m (hm : m ∈ L) => h.holds.ok m (hch.mem m hm))
  have hfw := hch.few
  have hHle := h.holds.head (s % 16)
  have hkk := box hk
  obtain ⟨k, hke⟩ : ∃ k, s % 16 = k := ⟨_, rfl⟩
  rw [hke] at hslot hchain
  have Hke := box hke
  have HLr := box hL
  obtain ⟨D2, k1, k2, k3⟩ := logd_empty h.holds h.disk.form (by omega) k (by omega)
  have hV := box (fun W (hc : Calm w W) => Calls.mono (Set_any q t (k : Int) 0 W (HL.out.disk.calm hc) (by omega) (HL.out.wheel.calm hc) HL.out.qF (by decide)) fun _ _ hh => OkDone.at hh (show wset D (k : Int) 0 = _ from k1))
  have K2 := box k2
  obtain ⟨c0, c1, f0, f1, hlt⟩ := h.log.cells
  clear h hR hke hL hch k1 k2 hk
  go_enter Try.func18, Try.ntmps18
  go_wp2_with fail
  refine (hslot.out _).mono ?_
  rintro e w1 ⟨rfl, rfl⟩
  go_wp2_with fail
  refine hchain.out.mono ?_
  rintro e w1 ⟨av, rfl, hm, hfrom, hc1⟩
  have Hm := box hm
  have Hfrom := box hfrom
  have Hc1 := box hc1
  obtain ⟨a, cap, hav, _⟩ := hm
  subst hav
  obtain ⟨d0, d1, e0, e1, elt⟩ := (HL.out.calm hc1).log.cells
  clear hfrom hc1 hchain c0 c1 f0 f1 hlt
  by_cases hL0 : L.length = 0
  · go_wp2_with fail
    go_ret2
    have hLn : L = [] := List.eq_nil_of_length_eq_zero hL0
    have hRk : R (s % 16) = [] := by rw [← HLr.out, hLn]; rfl
    refine ⟨_, [], n, D, F, E, H, rfl, ⟨none, 0, rfl, fun i hi => absurd hi (Nat.not_lt_zero _)⟩, by rw [hRk]; rfl, (fun b hb => by cases hb), HL.out.calm Hc1.out, ?_, by rw [hRk]; rfl, by omega, rfl, Step.of_calm Hc1.out⟩
    have : upd R (s % 16) (left s (R (s % 16))) = R := by
      have h0 : left s (R (s % 16)) = R (s % 16) := by rw [hRk]; rfl
      rw [h0, upd_self]
    rw [this]
    exact HR.out
  · go_wp2_with fail
    refine (hV.out _ Hc1.out).mono ?_
    rintro e w2 ⟨rfl, F2, hd2, hs2⟩
    have hlog2 := HL.out.step Hc1.out hd2 K2.out hs2
    have hap : ∀ b, (Value.slice a L.length cap).ownBlock = some b → ¬ F b := fun b hb hf => by have := Hfrom.out b hb; have := HL.out.disk.foot_lt _ hf; omega
    have hap2 : ∀ b, (Value.slice a L.length cap).ownBlock = some b → ¬ (F2 b ∨ b = l) := fun b hb hf => by
      have h1 := Hm.out.lt (i := 0) (by omega) hb
      have h2 := Hfrom.out b hb
      rcases hf with hf | rfl
      · rcases hs2.foot b hf with hf | hf
        · exact hap b hb hf
        · omega
      · have := heap_lt HL.out.log; omega
    have HT := box (show TkR p q l n D E R t s F w L (.slice a L.length cap) 0 (.slice none 0 0) w2 from
      ⟨n + 1, D2, F2, E, _, hlog2, by rw [Hke.out]; exact HR.out.emptied k (by have := Hke.out; omega), rfl, Nat.le_refl _, k3, ((Step.of_calm Hc1.out).trans hs2).or l, World.ownsRow_nil _ _ _ _, (fun b hb => by cases hb), Hm.out.keep hs2.keeps hap, fun b hb => ⟨hap2 b hb, fun e => by cases e⟩⟩)
    clear hd2 hs2 hlog2 hap hap2 d0 d1 e0 e1 elt Hm Hfrom hV
    go_wp2_with fail
    go_loopw [10, 47] (fun ov iv wr => ∃ i : Nat, i ≤ L.length ∧ iv = .int .i64 i ∧ TkR p q l n D E R t s F w L (.slice a L.length cap) i ov wr) (fun _ iv _ => L.length - (intOf iv).toNat)
    case atStart => exact ⟨0, Nat.zero_le _, rfl, HT.out⟩
    case round =>
      clear HT
      obtain ⟨i, hi, rfl, hT⟩ := hrel
      obtain ⟨n', D', F', E', H', hS⟩ := hT
      have HS := box hS
      obtain ⟨oa, ocap, hov, _⟩ := hS.out.shape
      subst hov
      obtain ⟨_, _, he, hcells⟩ := id hS.all
      cases he
      have Hcells := box hcells
      clear hS hcells
      by_cases hil : i < L.length
      · obtain ⟨b, rfl, hbl, r0, r1, r2, r3⟩ := Hcells.out i hil
        have hmk := hmem.out _ (List.getElem_mem hil)
        have hrk := hkk.out L[i].rc (by rw [← HLr.out]; exact List.mem_map.2 ⟨_, List.getElem_mem hil, rfl⟩)
        have hle := left_le s (R (s % 16)) (i + 1)
        by_cases hdue : L[i].rc.due ≤ s
        · have hsoon : soon s L[i].rc = true := decide_eq_true hdue
          obtain ⟨m, hm⟩ : ∃ z, L[i] = z := ⟨_, rfl⟩
          have hdi : (m.rc.due : Int) ≤ (s : Int) := by rw [hm] at hdue; omega
          simp only [hm] at r0 r1 r2 r3
          have hc3 : Calm wr (wr.alloc (.cells #[.int .i64 (m.rc.due : Int), .int .i64 (m.rc.place : Int), .int .i64 (m.ahead : Int), .int .i64 (m.rc.puts : Int)] 36)) := (Calm.refl wr).alloc _
          have hsz : w.heap.size ≤ wr.heap.size := HS.out.step.keeps.size
          obtain ⟨v', W4, happ, hrow4, hk4, hg4⟩ := append_mark w.heap.size (wr.alloc (.cells #[.int .i64 (m.rc.due : Int), .int .i64 (m.rc.place : Int), .int .i64 (m.ahead : Int), .int .i64 (m.rc.puts : Int)] 36)) _ (toldM s (L.take i)) m (own_calm HS.out.out hc3) (Nat.le_trans hsz hc3.size) (by have := toldM_le s (L.take i); rw [List.length_take] at this; omega) 31
          simp only [World.size_alloc] at happ
          have Happ := box happ
          have HT := box (TkR.told ⟨n', D', F', E', H', HS.out⟩ hil hsoon hc3 (by rw [hm]; exact hrow4) hk4 hg4)
          clear happ hk4 hg4 hrow4 hc3
          go_wp2_with (first | (at_builtin; refine Lib.wpList_append_run _ rfl _ _ _ _ rfl _ _ rfl rfl _ _ Happ.out ?_) | fail)
          go_roundw
          case rel => exact ⟨i + 1, by omega, by go_num, HT.out⟩
          case measure => simp [intOf]; omega
        · have hsoon : soon s L[i].rc = false := decide_eq_false hdue
          have hll : (left s ((L.take i).map Mk.rc)).length ≤ (left s (R (s % 16))).length := by rw [List.map_take, HLr.out]; exact left_le _ _ _
          have hcalls := HS.out.calls
          have hlen := HS.out.len
          obtain ⟨hmk1, hmk2⟩ := hmk
          have hlay := box (fun W1 (hc : Calm wr W1) => (show Calls Try.prog 16 #[ptrTo l, .agg #[.int .i64 (L[i].rc.due : Int), .int .i64 (L[i].rc.place : Int), .int .i64 (L[i].ahead : Int), .int .i64 ((L[i].rc.puts : Int) + 1)]] W1 (fun e W2 => e = .returned (.int .i64 0) ∧ TkR p q l n D E R t s F w L (.slice (some ⟨b, 0, none⟩) L.length cap) (i + 1) (.slice oa (toldM s (L.take i)).length ocap) W2) from
            (lay_any t (L[i].ahead : Int) L[i].rc.again W1 (HS.out.log.calm hc) (by omega) (by omega) (by rw [HS.out.cap]; omega) ⟨hmk1.1, hmk1.2.1, hrk.2⟩ (by omega)).mono fun e W2 hl => HS.out.far hil hsoon hrk.1 hc hl))
          have hwp : IntKind.i64.wrap ((L[i].rc.puts : Int) + 1) = (L[i].rc.puts : Int) + 1 := IntWalk.i64_in _ (by have := hrk.2; omega)
          have hdi : ¬ (L[i].rc.due : Int) ≤ (s : Int) := by omega
          obtain ⟨m, hm⟩ : ∃ z, L[i] = z := ⟨_, rfl⟩
          simp only [hm] at r0 r1 r2 r3 hlay hwp hdi
          clear hm hmk1 hmk2 hrk hsoon hdue hlen hcalls
          go_wp2_with fail
          refine (hlay.out _ ((Calm.refl wr).alloc _)).mono ?_
          rintro e w5 ⟨rfl, hT⟩
          have HT := box hT
          clear hT hlay
          go_wp2_with fail
          go_roundw
          case rel => exact ⟨i + 1, by omega, by go_num, HT.out⟩
          case measure => simp [intOf]; omega
      · obtain rfl : i = L.length := by omega
        go_wp2_with fail
        go_ret2
        have hS := HS.out
        have htk : (L.take L.length).map Mk.rc = R (s % 16) := by rw [List.take_length, HLr.out]
        have hrows := hS.rows
        have hlen := hS.len
        have hcalls := hS.calls
        rw [htk] at hrows hlen hcalls
        have hout := hS.out
        exact ⟨_, toldM s (L.take L.length), n', D', F', E', H', rfl, hout.marks, by rw [toldM_rc, htk], fun b hb => (hout.lt b hb).1, hS.log, hrows, hlen, hcalls, hS.cap, hS.step⟩
end
end Go.Proofs.Ytccbfekajbnehaa.tl
