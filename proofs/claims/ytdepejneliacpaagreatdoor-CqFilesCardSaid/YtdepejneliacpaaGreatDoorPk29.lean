/-
  DERIVED: THE SHELF's CONTRACTS AT THIS DUMP, IN PLAIN WORDS (tools/lay-plain.mjs out of 'TryzIter8.lean', which tools/lay-shelf.mjs wrote): THE SAME DECLARATIONS UNDER THE SAME NAMES: 'import', 'namespace', 'open', 'def', 'theorem' AND NOTHING ELSE: no command of the shelf's: FOR A HAND-IN. Each laying: the table of numbers ('.._ren') and one theorem, a field a fact of the dump's own or the kernel's comparison; each contract: ONE APPLICATION.
-/
import Derived.Test.YtdepejneliacpaaGreatDoorRows
import Derived.WalkKit
import Derived.ProofKit
import Derived.OpenShut
import Derived.Handy
import Derived.Deep.LoopGhost
import Derived.Lib.Hide
import Derived.Lib.Strings
import Derived.SizedLaws
import Derived.Maps.Own
import Derived.Maps.OwnOps
import Derived.Maps.OwnSet
import Derived.Maps.RangeWalk
import Derived.Deep.QuietTactic
import Derived.BigQuiet
import Derived.Deep.RegionHeld3
import Derived.Lib.ConvBytes
import Derived.Lib.AppendZeros
import Derived.Lib.AppendZerosOnto
import Derived.Lib.LazyBuf
import Derived.Shelf.Abstract
import Derived.LaidEql
import Derived.Lib.SliceRun
import Derived.StillTailTactics
import Derived.Deep.Slices
import Derived.Lib.Atoi
import Derived.Lib.ItoaNum
import Derived.Lib.SlTrimSet
import Derived.Shelf.SlIter.Nil
import Derived.Ground.GgzProg
import Derived.Shelf.SortM.Plain
import Derived.Shelf.SortM.SortNone
import Derived.Ground.SlgmProg
import Derived.Shelf.SlicesE.DeleteFunc
import Derived.Ground.SlgfProg
import Derived.Test.YtdepejneliacpaaGreatDoorProg
import Derived.Shelf.Strings.Builder1
import Derived.Shelf.Strings.Builder2
import Derived.Shelf.Strings.Trim
import Derived.Shelf.Small.Utf8
import Derived.Shelf.Small.Bits
import Derived.Shelf.Small.Strs
import Derived.Shelf.Small.Wraps
import Derived.Shelf.Strings.BuilderF
import Derived.Shelf.Strings.BuilderK
import Derived.Shelf.Strings.Builder2Cap
import Derived.Shelf.Strconv.Atoi
import Derived.Shelf.Strconv.Itoa0
import Derived.Shelf.Strconv.Itoa1
import Derived.Shelf.LaysM
import Derived.Shelf.Strconv.Itoa2
import Derived.Shelf.Strconv.Itoa3
import Derived.Shelf.Strings.Search1
import Derived.Shelf.Sort.Plain
import Derived.Shelf.GgClosure.StringsIndexFunc
import Derived.Ground.GgwProg
import Derived.Shelf.GgClosure.StringsIndexFuncTop
import Derived.Shelf.GgClosure.StringsRunes
import Derived.Shelf.Strings.Prefix
import Derived.Shelf.Strings.Runes
import Derived.Shelf.Strings.AsciiSet
import Derived.Shelf.Bits.Mul64
import Derived.Shelf.Strings.Repeat
import Derived.Shelf.Unicode.DecodeSlow
import Derived.Shelf.Unicode.DecodeAny
import Derived.Shelf.Unicode.DecodeLast
import Derived.Shelf.Strings.BuilderCap
import Derived.Shelf.Slices.Equal
import Derived.Ground.Names2Prog
import Derived.Shelf.Slices.Clone
import Derived.Shelf.Slices.CompactS
import Derived.Shelf.Slices.SearchI
import Derived.Shelf.Slices.Cells
import Derived.Shelf.Slices.In.SortNone
import Derived.Shelf.Slices.Empties2
import Derived.Ground.SlgnProg
import Derived.Shelf.SlicesE.Equal
import Derived.Shelf.SlicesE.Compact
import Derived.Shelf.SlicesE.Clone
import Derived.Shelf.SlicesE.IndexFunc
import Derived.Shelf.Strings.SlTrimAscii
import Derived.Lib.Repeat
import Derived.Lib.LaidTab
import Derived.Deep.RegionLaw
import Derived.Deep.RegionWith
import Derived.Lib.AtoiErrMem
import Derived.Laws.MakeOwn
import Derived.Lib.Builder
import Derived.Lib.AppendStr
import Derived.Lib.DecodeN
import Derived.Maps.Keyed
import Derived.DeepKeys4
import Derived.Laws.Cover1
import Derived.Shelf.SlSortCmp.WholeK
import Derived.Shelf.SlSortCmp.NoneTotal
import Derived.Ground.SlsfProg
import Derived.Test.YtdepejneliacpaaGreatDoorPk28
namespace Go.Proofs
open Go.Shelf
def Tryz.gSortQ_ren : Go.Shelf.Ren := ⟨fun | 6 => 70 | 15 => 119 | 14 => 118 | 28 => 168 | 29 => 169 | 20 => 160 | 21 => 161 | 22 => 162 | 23 => 163 | 24 => 164 | 25 => 165 | 26 => 166 | 27 => 167 | 46 => 200 | 47 => 201 | 48 => 202 | 49 => 203 | 50 => 204 | 57 => 236 | n => n, fun | 22 => 54 | 24 => 57 | 25 => 135 | 3 => 3 | 39 => 180 | 0 => 0 | 53 => 185 | 55 => 220 | 4 => 4 | 46 => 213 | 45 => 212 | 50 => 101 | 5 => 5 | 9 => 9 | 66 => 248 | 70 => 252 | 76 => 273 | 77 => 274 | n => n, fun | n => n⟩
theorem Tryz.gSortQ : Go.Proofs.SlLaysF0.n6 Tryz.prog Tryz.gSortQ_ren := {
  mixed := by kernel_rfl
  f6 := ⟨Tryz.f70.name, by decide, Tryz.func70.trans (congrArg some (by kernel_rfl))⟩
  f14 := ⟨Tryz.f118.name, by decide, Tryz.func118.trans (congrArg some (by kernel_rfl))⟩
  f15 := Tryz.func119.trans (congrArg some (by kernel_rfl))
  f20 := ⟨Tryz.f160.name, by decide, Tryz.func160.trans (congrArg some (by kernel_rfl))⟩
  f21 := ⟨Tryz.f161.name, by decide, Tryz.func161.trans (congrArg some (by kernel_rfl))⟩
  f22 := ⟨Tryz.f162.name, by decide, Tryz.func162.trans (congrArg some (by kernel_rfl))⟩
  f23 := ⟨Tryz.f163.name, by decide, Tryz.func163.trans (congrArg some (by kernel_rfl))⟩
  f24 := ⟨Tryz.f164.name, by decide, Tryz.func164.trans (congrArg some (by kernel_rfl))⟩
  f25 := ⟨Tryz.f165.name, by decide, Tryz.func165.trans (congrArg some (by kernel_rfl))⟩
  f26 := ⟨Tryz.f166.name, by decide, Tryz.func166.trans (congrArg some (by kernel_rfl))⟩
  f27 := ⟨Tryz.f167.name, by decide, Tryz.func167.trans (congrArg some (by kernel_rfl))⟩
  f28 := Tryz.func168.trans (congrArg some (by kernel_rfl))
  f29 := Tryz.func169.trans (congrArg some (by kernel_rfl))
  f46 := ⟨Tryz.f200.name, by decide, Tryz.func200.trans (congrArg some (by kernel_rfl))⟩
  f47 := Tryz.func201.trans (congrArg some (by kernel_rfl))
  f48 := Tryz.func202.trans (congrArg some (by kernel_rfl))
  f49 := ⟨Tryz.f203.name, by decide, Tryz.func203.trans (congrArg some (by kernel_rfl))⟩
  f50 := ⟨Tryz.f204.name, by decide, Tryz.func204.trans (congrArg some (by kernel_rfl))⟩
  f57 := ⟨Tryz.f236.name, by decide, Tryz.func236.trans (congrArg some (by kernel_rfl))⟩
  t0 := Tryz.underlying0
  a0 := Tryz.isAgg0
  z0 := Tryz.sizeOf0
  v0 := Tryz.zeroValue0
  t3 := Tryz.underlying3
  a3 := Tryz.isAgg3
  z3 := Tryz.sizeOf3
  v3 := Tryz.zeroValue3
  t4 := Tryz.underlying4
  a4 := Tryz.isAgg4
  z4 := Tryz.sizeOf4
  v4 := Tryz.zeroValue4
  t5 := Tryz.underlying5
  a5 := Tryz.isAgg5
  z5 := Tryz.sizeOf5
  v5 := Tryz.zeroValue5
  t9 := Tryz.underlying9
  a9 := Tryz.isAgg9
  z9 := Tryz.sizeOf9
  v9 := Tryz.zeroValue9
  t22 := Tryz.underlying54
  a22 := Tryz.isAgg54
  z22 := Tryz.sizeOf54
  v22 := Tryz.zeroValue54
  t25 := Tryz.underlying135
  a25 := Tryz.isAgg135
  z25 := Tryz.sizeOf135
  v25 := Tryz.zeroValue135
  t39 := Tryz.underlying180
  a39 := Tryz.isAgg180
  z39 := Tryz.sizeOf180
  v39 := Tryz.zeroValue180
  t45 := Tryz.underlying212
  a45 := Tryz.isAgg212
  z45 := Tryz.sizeOf212
  v45 := Tryz.zeroValue212
  t46 := Tryz.underlying213
  a46 := Tryz.isAgg213
  z46 := Tryz.sizeOf213
  v46 := Tryz.zeroValue213
  t50 := Tryz.underlying101
  a50 := Tryz.isAgg101
  z50 := Tryz.sizeOf101
  v50 := Tryz.zeroValue101
  t53 := Tryz.underlying185
  a53 := Tryz.isAgg185
  z53 := Tryz.sizeOf185
  v53 := Tryz.zeroValue185
  t55 := Tryz.underlying220
  a55 := Tryz.isAgg220
  z55 := Tryz.sizeOf220
  v55 := Tryz.zeroValue220
  t66 := Tryz.underlying248
  a66 := Tryz.isAgg248
  z66 := Tryz.sizeOf248
  v66 := Tryz.zeroValue248
  t70 := Tryz.underlying252
  a70 := Tryz.isAgg252
  z70 := Tryz.sizeOf252
  v70 := Tryz.zeroValue252
  t76 := Tryz.underlying273
  a76 := Tryz.isAgg273
  z76 := Tryz.sizeOf273
  v76 := Tryz.zeroValue273
  t77 := Tryz.underlying274
  a77 := Tryz.isAgg274
  z77 := Tryz.sizeOf274
  v77 := Tryz.zeroValue274 }
end Go.Proofs

/- Layer 10: rows of what All tells; they are sorted. -/
namespace Go.Proofs.YtdepejneliacpaaGreatDoor.cq
open Go.ChangeShapes Go.WideShapes Go.ChangeAt Go.RowKit Go.ChangeMaps Go.Sort Go.Shelf
open Go.Proofs.YtdepejneliacpaaGreatDoor.dk Go.Proofs.YtdepejneliacpaaGreatDoor.sg

instance : Inhabited QT := ⟨⟨⟨#[]⟩, 0, 0, 0⟩⟩
theorem vals_length (x : QT) : x.vals.length = 4 := rfl
theorem vals_get : ∀ (L : List QT) (j : Nat) (hj : j < L.length), (L.flatMap QT.vals)[j * 4]? = some (.string L[j].t) ∧ (L.flatMap QT.vals)[j * 4 + 1]? = some (.int .i64 L[j].n) ∧ (L.flatMap QT.vals)[j * 4 + 2]? = some (.int .i64 L[j].least) ∧ (L.flatMap QT.vals)[j * 4 + 3]? = some (.int .i64 L[j].next)
  | x :: L, 0, _ => ⟨rfl, rfl, rfl, rfl⟩
  | x :: L, j + 1, hj => by
    have := vals_get L j (by simpa using hj)
    simp only [List.flatMap_cons, List.getElem_cons_succ]
    have e : ∀ k, (QT.vals x ++ L.flatMap QT.vals)[(j + 1) * 4 + k]? = (L.flatMap QT.vals)[j * 4 + k]? := fun k => by
      rw [List.getElem?_append_right (by simp [QT.vals]; omega)]; congr 1; simp [QT.vals]; omega
    have e0 := e 0
    simp only [Nat.add_zero] at e0
    rw [e0, e 1, e 2, e 3]; exact this
theorem vals_flat (l : List QT) : (l.flatMap QT.vals).length = l.length * 4 := by
  induction l with
  | nil => rfl
  | cons a l ih => simp [QT.vals, ih]; omega
/-- A slice value that reads as a list of queues. -/
def QsAt (w : World) (v : Value) (l : List QT) : Prop := ∃ a cap, v = .slice a l.length cap ∧ ∀ i (hi : i < l.length), ∃ b cur, a = some ⟨b, 0, none⟩ ∧ w.heap[b]? = some (.cells cur 57 (0, 0)) ∧
    cur[i * 4]? = some (.string l[i].t) ∧ cur[i * 4 + 1]? = some (.int .i64 l[i].n) ∧ cur[i * 4 + 2]? = some (.int .i64 l[i].least) ∧ cur[i * 4 + 3]? = some (.int .i64 l[i].next)
theorem oth_qt : OthQ 57 := by unfold OthQ; decide
theorem QsAt.kept {w w' : World} {v : Value} {l : List QT} (h : QsAt w v l) (hk : KeptQ w w') : QsAt w' v l := by
  obtain ⟨a, cap, rfl, hc⟩ := h
  refine ⟨a, cap, rfl, fun i hi => ?_⟩
  obtain ⟨b, cur, rfl, hb, h1⟩ := hc i hi
  exact ⟨b, cur, rfl, hk _ oth_qt (by decide) _ _ hb, h1⟩
theorem QsAt.cells {w : World} {v : Value} {l : List QT} (h : QsAt w v l) : ∃ a cap, v = .slice a l.length cap ∧ ∀ i (hi : i < l.length), ∃ b, a = some ⟨b, 0, none⟩ ∧ b < w.heap.size ∧
    w.cell? ⟨b, i * 4, none⟩ = some (.string l[i].t) ∧ w.cell? ⟨b, i * 4 + 1, none⟩ = some (.int .i64 l[i].n) ∧ w.cell? ⟨b, i * 4 + 2, none⟩ = some (.int .i64 l[i].least) ∧ w.cell? ⟨b, i * 4 + 3, none⟩ = some (.int .i64 l[i].next) := by
  obtain ⟨a, cap, rfl, hc⟩ := h
  refine ⟨a, cap, rfl, fun i hi => ?_⟩
  obtain ⟨b, cur, rfl, hb, h0, h1, h2, h3⟩ := hc i hi
  exact ⟨b, rfl, heap_lt hb, (cell_of hb _).trans h0, (cell_of hb _).trans h1, (cell_of hb _).trans h2, (cell_of hb _).trans h3⟩
abbrev qRow (B : Nat) (w : World) (v : Value) (l : List QT) : Prop := w.ownsRow B 57 4 v l.length (l.flatMap QT.vals)
theorem infoQ : (Tryz.prog.info? 57).map (fun i => (i.zero, i.size, i.bytes)) = some (some (.agg #[.string ⟨#[]⟩, .int .i64 0, .int .i64 0, .int .i64 0]), 4, 40) := by kernel_rfl
set_option maxRecDepth 100000 in
theorem append_q (B : Nat) (w : World) (v : Value) (L : List QT) (x : QT) (h : qRow B w v L) (hB : B ≤ w.heap.size) (hl : L.length ≤ 1000000) (ty : TypeId) :
    ∃ v' w', (Builtin.append_ #[54, 54] ty #[v, .slice (some ⟨w.heap.size, 0, none⟩) 1 1]).run Tryz.prog (w.alloc (.cells #[.string x.t, .int .i64 x.n, .int .i64 x.least, .int .i64 x.next] 57)) = .ok v' w' ∧ qRow B w' v' (L ++ [x]) ∧
      Keeps (fun g => v.ownBlock = some g) w w' := by
  obtain ⟨i0, hi, hz0, hz1, hz2⟩ := info_parts infoQ
  have hb := heap_new w (.cells #[.string x.t, .int .i64 x.n, .int .i64 x.least, .int .i64 x.next] 57)
  obtain ⟨v', w', h1, h2, h3, h4⟩ := append_own (P := Tryz.prog) (w.alloc (.cells #[.string x.t, .int .i64 x.n, .int .i64 x.least, .int .i64 x.next] 57)) 54 ty 57 i0 _ 4 40 Tryz.underlying54 hi hz0 hz1 hz2 (by kernel_rfl) (by decide) v L.length _ (row_zero (h.alloc _)) ⟨w.heap.size, 0, none⟩ 1 1 (by decide) (QT.vals x) rfl (fun j u hj => by
      rw [add_lit, cell_of hb]
      match j, hj with
      | 0, hj => exact hj
      | 1, hj => exact hj
      | 2, hj => exact hj
      | 3, hj => exact hj
      | k + 4, hj => simp [QT.vals] at hj) (fun u hu => by
      simp only [QT.vals, List.mem_cons, List.not_mem_nil, or_false] at hu
      rcases hu with rfl | rfl | rfl | rfl <;> rfl) (by simp only [maxLen]; omega) (by omega)
  refine ⟨v', w', h1, ?_, ?_⟩
  · show w'.ownsRow B _ 4 v' (L ++ [x]).length ((L ++ [x]).flatMap QT.vals)
    refine row_base ?_ (fun g e => ?_)
    rotate_left
    · rcases h4 with h4 | h4
      · exact (h.lt g (h4.symm.trans e)).1
      · rw [h4] at e; cases e; simp; omega
    rw [List.flatMap_append, List.length_append]
    simpa using h2
  · exact (((Keeps.refl (fun g => v.ownBlock = some g) w).alloc _).trans' (h3.mono (fun b _ h => h)))
theorem flat_q (L : List QT) (j : Nat) (hj : j < L.length * 4) : (L.flatMap QT.vals)[j]? = some ((QT.vals L.toArray[j / 4]!)[j % 4]!) := by
  have hi : j / 4 < L.length := by omega
  obtain ⟨h0, h1, h2, h3⟩ := vals_get L (j / 4) hi
  have hg : L.toArray[j / 4]! = L[j / 4] := by rw [getElem!_pos L.toArray (j / 4) (by simpa using hi)]; simp
  rw [hg]
  have hm : j % 4 = 0 ∨ j % 4 = 1 ∨ j % 4 = 2 ∨ j % 4 = 3 := by omega
  rcases hm with hm | hm | hm | hm
  · rw [hm]; rw [show j / 4 * 4 = j by omega] at h0; rw [h0]; rfl
  · rw [hm]; rw [show j / 4 * 4 + 1 = j by omega] at h1; rw [h1]; rfl
  · rw [hm]; rw [show j / 4 * 4 + 2 = j by omega] at h2; rw [h2]; rfl
  · rw [hm]; rw [show j / 4 * 4 + 3 = j by omega] at h3; rw [h3]; rfl
theorem holds_q {B g cap : Nat} {w : World} {L : List QT} (h : qRow B w (.slice (some ⟨g, 0, none⟩) L.length cap) L) (hne : 0 < L.length) : HoldsK QT.vals 4 w g 0 L.toArray := fun j hj => by
  rw [size_flatK] at hj
  have hj' : j < L.length * 4 := by simpa using hj
  rw [get_flatK _ _ _ _ hj, Nat.zero_add]
  have hc := h.cells (g := g) rfl j _ (flat_q L j hj')
  rw [add_lit] at hc
  refine ⟨by simpa using hc, ?_⟩
  rcases h.2 with ⟨h2, h3⟩ | ⟨g', cap', cur, h2, h3, h4, h5⟩
  · omega
  · cases h2
    exact free_of h4 j
theorem q_cells : ∀ (x : QT), ∀ v ∈ QT.vals x, v.oneCell' = true := fun x v hv => by
  simp only [QT.vals, List.mem_cons, List.not_mem_nil, or_false] at hv
  rcases hv with rfl | rfl | rfl | rfl <;> rfl
theorem or2_lt {x y : Int} : or2 x y < 0 ↔ x < 0 ∨ (x = 0 ∧ y < 0) := by unfold or2; split <;> omega
theorem swoQ : SWO (ltOf ordQ) where
  irrefl x := by
    unfold ltOf ordQ
    rw [decide_eq_false_iff_not, or2_lt]
    have h1 : cmpB x.t x.t = 0 := cmpB_zero.2 rfl
    have h2 : cmpI x.n x.n = 0 := cmpI_zero.2 rfl
    omega
  trans x y z h1 h2 := by
    unfold ltOf ordQ at *
    rw [decide_eq_true_iff, or2_lt] at *
    rcases h1 with h1 | ⟨e1, h1⟩
    · rcases h2 with h2 | ⟨e2, h2⟩
      · exact .inl (cmpB_trans h1 h2)
      · rw [cmpB_zero] at e2; rw [← e2]; exact .inl h1
    · rw [cmpB_zero] at e1
      rcases h2 with h2 | ⟨e2, h2⟩
      · rw [e1]; exact .inl h2
      · rw [cmpB_zero] at e2
        exact .inr ⟨cmpB_zero.2 (e1.trans e2), cmpI_trans h1 h2⟩
  ntrans x y z h1 h2 := by
    unfold ltOf ordQ at *
    rw [decide_eq_false_iff_not, or2_lt] at *
    have a1 := cmpB_anti x.t y.t
    have a2 := cmpB_anti y.t z.t
    have a3 := cmpB_anti x.t z.t
    have b1 := cmpI_anti x.n y.n
    have b2 := cmpI_anti y.n z.n
    have b3 := cmpI_anti x.n z.n
    intro h3
    apply h1
    rcases h3 with h3 | ⟨e3, h3⟩
    · by_cases hxy : cmpB x.t y.t < 0
      · exact .inl hxy
      · exfalso
        apply h2
        left
        by_cases h0 : cmpB x.t y.t = 0
        · rw [cmpB_zero] at h0; rw [← h0]; exact h3
        · exact cmpB_trans (by omega : cmpB y.t x.t < 0) h3
    · by_cases hxy : cmpB x.t y.t < 0
      · exact .inl hxy
      · rw [cmpB_zero] at e3
        by_cases h0 : cmpB x.t y.t = 0
        · refine .inr ⟨h0, ?_⟩
          rw [cmpB_zero] at h0
          by_cases hn : cmpI x.n y.n < 0
          · exact hn
          · exfalso
            apply h2
            refine .inr ⟨cmpB_zero.2 (h0.symm.trans e3), ?_⟩
            by_cases h00 : cmpI x.n y.n = 0
            · rw [cmpI_zero] at h00; rw [← h00]; exact h3
            · exact cmpI_trans (by omega : cmpI y.n x.n < 0) h3
        · exfalso
          apply h2
          left
          rw [← e3]; omega
theorem grown_q (w : World) (x y : QT) : (((w.alloc (.cells #[.string x.t, .int .i64 x.n, .int .i64 x.least, .int .i64 x.next] 57)).alloc (.cells #[.string y.t, .int .i64 y.n, .int .i64 y.least, .int .i64 y.next] 57)).alloc (.cells #[.int .i64 (cmpB x.t y.t), .int .i64 (cmpI x.n y.n)] 3)).drew =
    grow (w.drewN 1) #[.cells #[.string x.t, .int .i64 x.n, .int .i64 x.least, .int .i64 x.next] 57, .cells #[.string y.t, .int .i64 y.n, .int .i64 y.least, .int .i64 y.next] 57, .cells #[.int .i64 (cmpB x.t y.t), .int .i64 (cmpI x.n y.n)] 3] := by
  simp [grow, World.alloc, World.drew, World.drewN, -World.alloc_eq, -World.drew_eq]
  apply Array.toList_inj.1
  simp
theorem cmp_lays (g size : Nat) (w : World) : CmpLays Tryz.prog 71 #[] QT.vals 4 ordQ g 0 size w := fun m os dk _ x y => by
  refine (less_any x y _).mono ?_
  rintro e w' ⟨rfl, rfl⟩
  exact ⟨rfl, 1, _, grown_q _ x y⟩
theorem sw_block {w : World} {g m : Nat} {dk : Array QT} {os : Array Obj} {b : Nat} (hb : b < w.heap.size) (hn : b ≠ g) : (sortWorldK QT.vals 4 w g 0 m dk os).heap[b]? = w.heap[b]? := by
  unfold sortWorldK
  have hsz : b < (putRowK QT.vals 4 (Sort.ahead w m) g 0 dk).heap.size := by simpa [putRowK, putRow, mapBlock, Sort.ahead] using hb
  rw [Go.Sort.heap_grow_old _ _ hsz]
  simp [putRowK, putRow, mapBlock, Sort.ahead, Array.getElem?_modify, Ne.symm hn]
theorem sw_own {w : World} {g m : Nat} {dk : Array QT} {os : Array Obj} {cur : Array Value} {T : TypeId} (hg : w.heap[g]? = some (.cells cur T (0, 0))) : ∃ cur', (sortWorldK QT.vals 4 w g 0 m dk os).heap[g]? = some (.cells cur' T (0, 0)) := by
  have hlt := heap_lt hg
  unfold sortWorldK
  have hsz : g < (putRowK QT.vals 4 (Sort.ahead w m) g 0 dk).heap.size := by simpa [putRowK, putRow, mapBlock, Sort.ahead] using hlt
  rw [Go.Sort.heap_grow_old _ _ hsz]
  simp [putRowK, putRow, mapBlock, Sort.ahead, Array.getElem?_modify, hg]
  exact ⟨_, rfl⟩
set_option maxHeartbeats 1000000 in
/-- Queues are sorted. -/
theorem sort_any (B : Nat) (L : List QT) (w : World) (v : Value) (h : qRow B w v L) (hl : L.length ≤ 1000000) :
    Calls Tryz.prog 70 #[v, .func (.func 71) #[] #[]] w fun e w' => e = .returned (.tuple #[]) ∧ ∃ L' : List QT, L'.Perm L ∧ (∀ i j (hij : i < j) (hj : j < L'.length), ¬ ordQ L'[j] L'[i] < 0) ∧ QsAt w' v L' ∧ Keeps (fun g => v.ownBlock = some g) w w' := by
  by_cases hne : 0 < L.length
  · rcases id h.2 with ⟨rfl, hn⟩ | ⟨g, cap, cur, rfl, hb, hg, hnc, hcm, hcs, htake⟩
    · omega
    · have hlt := heap_lt hg
      have hH := holds_q h hne
      refine (AnyQ.slices_SortFunc Tryz.gSortQ 4 Tryz.isAgg57 Tryz.sizeOf57 QT.vals vals_length q_cells ordQ swoQ 71 #[] g 0 cap L.toArray w (enters_of Tryz.func71 (by kernel_rfl) rfl) (cmp_lays g _ w) hH hlt (by simp; omega)).mono ?_
      rintro e w' ⟨rfl, d', n, os, hp, hs, rfl⟩
      obtain ⟨q1, _, q3⟩ := hp
      have hdl : d'.toList.length = L.length := by rw [Array.length_toList, q1, List.size_toArray]
      have hperm : d'.toList.Perm L := by
        have h2 := q3
        rw [show L.toArray.size = d'.size from q1.symm] at h2
        have e1 : d'.extract 0 d'.size = d' := by simp
        have e2 : L.toArray.extract 0 d'.size = L.toArray := by rw [q1]; simp
        rw [e1, e2] at h2
        exact h2
      have hH2 := holdsK_sortWorldK_c (enc := QT.vals) (k := 4) (w := w) (blk := g) (off := 0) L.toArray d' n os hH hlt q1
      refine ⟨rfl, d'.toList, hperm, fun i j hij hj => ?_, ⟨_, cap, by rw [hdl], fun i hi => (sw_own hg (m := n) (dk := d') (os := os)).elim fun cur' hcur' => ⟨g, cur', rfl, hcur', ?_⟩⟩, ⟨rfl, rfl, rfl, size_sortWorldK_c (enc := QT.vals) (k := 4) (w := w) (blk := g) (off := 0) n d' os, fun b hb hF => sw_block hb (fun e => hF (by rw [e]; rfl))⟩⟩
      · have h3 := hs i j (Nat.zero_le _) hij (by rw [List.size_toArray]; omega)
        unfold ltOf at h3
        rw [decide_eq_false_iff_not] at h3
        have hi : i < d'.size := by rw [Array.length_toList] at hj; omega
        have hj' : j < d'.size := by rwa [Array.length_toList] at hj
        rw [getElem!_pos d' i hi, getElem!_pos d' j hj'] at h3
        exact h3
      · have hi' : i < d'.size := by rwa [Array.length_toList] at hi
        have hx : d'[i]! = d'.toList[i] := by rw [getElem!_pos d' i hi']; simp
        have c0 := (hH2.cell hi' (c := 0) (by decide)).1
        have c1 := (hH2.cell hi' (c := 1) (by decide)).1
        have c2 := (hH2.cell hi' (c := 2) (by decide)).1
        have c3 := (hH2.cell hi' (c := 3) (by decide)).1
        rw [hx, Nat.zero_add] at c0 c1 c2 c3
        exact ⟨(cell_of hcur' _).symm.trans c0, (cell_of hcur' _).symm.trans c1, (cell_of hcur' _).symm.trans c2, (cell_of hcur' _).symm.trans c3⟩
  · obtain rfl : L = [] := List.eq_nil_of_length_eq_zero (by omega)
    have hv : ∃ a cap, v = .slice a 0 cap := by
      rcases h.2 with ⟨rfl, hn⟩ | ⟨g, cap, cur, rfl, hb, hg, hnc, hcm, hcs, htake⟩
      · exact ⟨_, _, rfl⟩
      · exact ⟨_, _, rfl⟩
    obtain ⟨a, cap, rfl⟩ := hv
    refine (AnyF.slices_SortFunc_none Tryz.gSortQ a cap _ w).mono ?_
    rintro e w' ⟨rfl, rfl⟩
    exact ⟨rfl, [], List.Perm.refl _, fun i j _ hj => absurd hj (Nat.not_lt_zero _), ⟨a, cap, rfl, fun i hi => absurd hi (Nat.not_lt_zero _)⟩, .refl _ _⟩
end Go.Proofs.YtdepejneliacpaaGreatDoor.cq

/- Layer 10: All. -/
namespace Go.Proofs.YtdepejneliacpaaGreatDoor.cq
open Go.ChangeShapes Go.WideShapes Go.ChangeAt Go.RowKit Go.ChangeMaps Go.Sort Go.Shelf
open Go.Proofs.YtdepejneliacpaaGreatDoor.dk Go.Proofs.YtdepejneliacpaaGreatDoor.sg

def Qe.tell (e : Qe) : QT := ⟨e.q.t, e.q.n, e.q.least, e.q.next⟩
def encE (e : Qe) : Value × Value := (e.key, ptrTo e.x)
theorem encE_split {left : List Qe} {l1 l2 : List (Value × Value)} {x1 x2 : Value} (h : left.map encE = l1 ++ (x1, x2) :: l2) : ∃ L1 e L2, left = L1 ++ e :: L2 ∧ l1 = L1.map encE ∧ x1 = e.key ∧ x2 = ptrTo e.x ∧ l2 = L2.map encE := by
  obtain ⟨L1, L', hL, h1, h2⟩ := List.map_eq_append_iff.1 h
  obtain ⟨e, L2, hL', h3, h4⟩ := List.map_eq_cons_iff.1 h2
  simp only [encE, Prod.mk.injEq] at h3
  exact ⟨L1, e, L2, by rw [hL, hL'], h1.symm, h3.1.symm, h3.2.symm, h4.symm⟩
/-- A key's and a queue's block, throughout a region. -/
structure Kh (b x rr : Nat) (t : ByteArray) (n ba le : Nat) (w : World) : Prop where
  key : w.heap[b]? = some (.cells #[.string t, .int .i64 (n : Int)] 119 (0, 0))
  obj : w.heap[x]? = some (.cells #[ptrTo rr, .int .i64 (ba : Int), .int .i64 (le : Int)] 126 (0, 0))
theorem Kh.calm {b x rr n ba le : Nat} {t : ByteArray} {w w' : World} (h : Kh b x rr t n ba le w) (hc : Calm w w') : Kh b x rr t n ba le w' := ⟨heap_calm hc h.key, heap_calm hc h.obj⟩
theorem Kh.cells {b x rr n ba le : Nat} {t : ByteArray} {w : World} (h : Kh b x rr t n ba le w) : w.cell? ⟨b, 0, none⟩ = some (.string t) ∧ w.cell? ⟨b, 1, none⟩ = some (.int .i64 (n : Int)) ∧ b < w.heap.size ∧ w.cell? ⟨x, 2, none⟩ = some (.int .i64 (le : Int)) ∧ x < w.heap.size ∧ True ∧ True ∧ True ∧ True ∧ True :=
  ⟨cell_of h.key 0, cell_of h.key 1, heap_lt h.key, cell_of h.obj 2, heap_lt h.obj, trivial, trivial, trivial, trivial, trivial⟩
section
variable {B : ByteArray → Option ByteArray} {W w w' : World} {g p mb n c m r : Nat} {D : DiskS} {R : RowS} {F : Nat → Prop} {v : Value} {es l1 l2 : List Qe} {e : Qe} {t : ByteArray} {k : Int}
/-- What All tells. -/
structure AllIs (es : List Qe) (L : List QT) : Prop where
  perm : L.Perm (es.map Qe.tell)
  order : ∀ i j (hij : i < j) (hj : j < L.length), ¬ ordQ L[j] L[i] < 0
set_option maxRecDepth 100000 in
set_option maxHeartbeats 8000000 in
theorem All_any (h : CqAt B W g p mb n c m D F es w) (hl : es.length ≤ 1000000) :
    Calls Tryz.prog 26 #[ptrTo g] w fun e' w' => ∃ v L, e' = .returned v ∧ AllIs es L ∧ QsAt w' v L ∧ Calm w w' := by
  obtain ⟨c0, c1, clt⟩ := h.cells
  have H := box h
  have Hm := box h.map
  have hmb := h.map.lt
  clear h
  go_enter Tryz.func26, Tryz.ntmps26
  go_wp2_with (at_range; refine wpList_range_of rfl _ rfl Tryz.underlying106 rfl Hm.out ?_; intro w0 hr0 hc0 hs0)
  (try go_frame)
  go_loopw [3] (fun sv wr => ∃ (left dn : List Qe), RangeOf Tryz.prog 119 wr mb w.heap.size (es.map encE) (left.map encE) ∧ (dn ++ left).Perm es ∧ qRow (w.heap.size + 1) wr sv (dn.map Qe.tell) ∧ Calm w wr ∧ w.heap.size + 1 ≤ wr.heap.size) (fun _ wr => wr.rangeLeft mb w.heap.size)
  case atStart => exact ⟨es, [], hr0, List.Perm.refl _, World.ownsRow_nil _ _ _ _, hc0, by omega⟩
  case round =>
    obtain ⟨left, dn, hr, hp, hrow, hcw, hsz⟩ := hrel
    have Hr := box hr
    have Hp := box hp
    have Hrow := box hrow
    have HC := box hcw
    clear hr hp hrow hcw
    go_wp2_with (at_next; refine wpList_next_of rfl _ rfl rfl Hr.out ?_ ?_)
    case refine_1 =>
      intro hnil
      have hnil : left = [] := by simpa using hnil
      subst hnil
      have hperm : dn.Perm es := by have := Hp.out; rwa [List.append_nil] at this
      have hsrt := box (sort_any (w.heap.size + 1) (dn.map Qe.tell) wr _ Hrow.out (by rw [List.length_map, hperm.length_eq]; exact hl))
      have Hpe := box (hperm.map Qe.tell)
      have hown := box (fun b hb => (Hrow.out.lt b hb).1)
      clear hperm
      go_wp2_with fail
      refine hsrt.out.mono ?_
      rintro e' w2 ⟨rfl, L', hpm, hord, hqs, hkp⟩
      have HP := box hpm
      have HO := box hord
      have HQ := box hqs
      have HC2 := box (show Calm w w2 from Below.trans HC.out (hkp.below HC.out.size (fun b hb => by have := hown.out b hb; omega)))
      clear hpm hord hqs hkp hsrt
      go_wp2_with fail
      go_ret
      exact ⟨_, L', rfl, ⟨HP.out.trans Hpe.out, fun i j hij hj => by have := HO.out i j hij hj; omega⟩, HQ.out, HC2.out⟩
    case refine_2 =>
      intro l1 x1 x2 l2 w1 hl1 hr1 hen hk1 hs1 z hz hzz
      obtain ⟨L1, y, L2, hL, rfl, rfl, rfl, rfl⟩ := encE_split hl1
      subst hL
      have hyS : y ∈ es := (Hp.out.mem_iff).1 (by simp)
      have hcalm1 : Calm w w1 := ⟨hk1.os.trans HC.out.os, hk1.tape.trans HC.out.tape, hk1.output.trans HC.out.output, Nat.le_trans HC.out.size hk1.size, fun b hb => (hk1.block b (Nat.lt_of_lt_of_le hb HC.out.size) (fun e => by omega)).trans (HC.out.block b hb)⟩
      have hq1 := (H.out.rows y hyS).calm hcalm1
      unfold Qe.key wkey at hen
      obtain ⟨w2, hw2⟩ : ∃ w2, w1.alloc (.cells #[.string y.q.t, .int .i64 (y.q.n : Int)] 119) = w2 := ⟨_, rfl⟩
      have hc2 : Calm w1 w2 := by rw [← hw2]; exact (Calm.refl w1).alloc _
      have hkey : w2.heap[w1.heap.size]? = some (.cells #[.string y.q.t, .int .i64 (y.q.n : Int)] 119 (0, 0)) := by rw [← hw2]; exact heap_new w1 _
      have hq2 := hq1.calm hc2
      have HK := box (show Kh w1.heap.size y.x y.r y.q.t y.q.n y.q.base y.q.least w2 from ⟨hkey, hq2.obj⟩)
      have HKd := box (HK.out.calm ((Calm.refl w2).drewN 1))
      have hnx := box (next_any w2.drew (hq2.calm ((Calm.refl w2).drewN 1)))
      have hrow2 : qRow (w.heap.size + 1) w2 _ (dn.map Qe.tell) := own_calm (row_same Hrow.out (fun b hb => hk1.block b (Hrow.out.lt b hb).2 (fun e => by have := (Hrow.out.lt b hb).1; omega))) hc2
      have Hrow2 := box hrow2
      have Hr2 := box (hr1.calm hc2)
      have Hc2 := box (hcalm1.trans hc2)
      have hdl : (dn.map Qe.tell).length ≤ 1000000 := by
        have := Hp.out.length_eq
        rw [List.length_append] at this
        rw [List.length_map]; omega
      have hperm := box Hp.out
      have HB := box (show w.heap.size + 1 ≤ w2.heap.size from by have := hc2.size; omega)
      have HrL := box (show wr.rangeLeft mb w.heap.size = (L1 ++ y :: L2).length from by rw [Hr.out.left_eq, List.length_map])
      clear hl1 hr1 hk1 hs1 hz hzz hyS hcalm1 hq1 hc2 hkey hq2 hrow2 Hrow Hr HC Hp
      obtain ⟨c0, c1, c2, c3, c4, _⟩ := HK.out.cells
      go_upto_region 7 with fail
      (try rw [hw2])
      refine wp_region_held_drew (S := fun W' => Box (Kh w1.heap.size y.x y.r y.q.t y.q.n y.q.base y.q.least W')) (by kernel_rfl) HKd (fun g0 => ?_)
      ((refine' wpAnyH_take (i := 0) (v := _) rfl (by kernel_rfl) (by kernel_rfl) (by kernel_rfl) (fun _ _ _ h => h) (Or.inl ⟨by rfl, ?hy10⟩) (by assumption) ?rest10; (case hy10 => (intro w hSw; obtain ⟨hz0, hz1, hz2, hz3, hz4, hz5, hz6, hz7, hz8, hz9⟩ := hSw.out.cells; go_simp <;> with_reducible rfl)); simp only [List.getElem_toArray, List.getElem_cons_succ, List.getElem_cons_zero, Act.put, List.setIfInBounds_toArray, List.set_cons_zero, List.set_cons_succ]); (refine' wpAnyH_take (i := 1) (v := _) rfl (by kernel_rfl) (by kernel_rfl) (by kernel_rfl) (fun _ _ _ h => h) (Or.inl ⟨by rfl, ?hy11⟩) (by assumption) ?rest11; (case hy11 => (intro w hSw; obtain ⟨hz0, hz1, hz2, hz3, hz4, hz5, hz6, hz7, hz8, hz9⟩ := hSw.out.cells; go_simp <;> with_reducible rfl)); simp only [List.getElem_toArray, List.getElem_cons_succ, List.getElem_cons_zero, Act.put, List.setIfInBounds_toArray, List.set_cons_zero, List.set_cons_succ]); (refine' wpAnyH_take (i := 2) (v := _) rfl (by kernel_rfl) (by kernel_rfl) (by kernel_rfl) (fun _ _ _ h => h) (Or.inl ⟨by rfl, ?hy12⟩) (by assumption) ?rest12; (case hy12 => (intro w hSw; obtain ⟨hz0, hz1, hz2, hz3, hz4, hz5, hz6, hz7, hz8, hz9⟩ := hSw.out.cells; go_simp <;> with_reducible rfl)); simp only [List.getElem_toArray, List.getElem_cons_succ, List.getElem_cons_zero, Act.put, List.setIfInBounds_toArray, List.set_cons_zero, List.set_cons_succ]); (refine' wpAnyH_take (i := 3) (v := _) rfl (by kernel_rfl) (by kernel_rfl) (by kernel_rfl) (fun _ _ _ h => h) (Or.inl ⟨by rfl, ?hy13⟩) (by assumption) ?rest13; (case hy13 => (intro w hSw; obtain ⟨hz0, hz1, hz2, hz3, hz4, hz5, hz6, hz7, hz8, hz9⟩ := hSw.out.cells; go_simp <;> with_reducible rfl)); simp only [List.getElem_toArray, List.getElem_cons_succ, List.getElem_cons_zero, Act.put, List.setIfInBounds_toArray, List.set_cons_zero, List.set_cons_succ]); (refine' wpAnyH_take (i := 4) (v := _) rfl (by kernel_rfl) (by kernel_rfl) (by kernel_rfl) (fun _ _ _ h => h) (Or.inl ⟨by rfl, ?hy14⟩) (by assumption) ?rest14; (case hy14 => (intro w hSw; obtain ⟨hz0, hz1, hz2, hz3, hz4, hz5, hz6, hz7, hz8, hz9⟩ := hSw.out.cells; go_simp <;> with_reducible rfl)); simp only [List.getElem_toArray, List.getElem_cons_succ, List.getElem_cons_zero, Act.put, List.setIfInBounds_toArray, List.set_cons_zero, List.set_cons_succ]); (refine' wpAnyH_take (i := 5) (v := _) rfl (by kernel_rfl) (by kernel_rfl) (by kernel_rfl) (fun _ _ _ h => h) (Or.inl ⟨by rfl, ?hy15⟩) (by assumption) ?rest15; (case hy15 => (intro w hSw; obtain ⟨hz0, hz1, hz2, hz3, hz4, hz5, hz6, hz7, hz8, hz9⟩ := hSw.out.cells; go_simp <;> with_reducible rfl)); simp only [List.getElem_toArray, List.getElem_cons_succ, List.getElem_cons_zero, Act.put, List.setIfInBounds_toArray, List.set_cons_zero, List.set_cons_succ]); (refine' wpAnyH_take (i := 6) (v := _) rfl (by kernel_rfl) (by kernel_rfl) (by kernel_rfl) (fun _ _ _ h => h) (Or.inl ⟨by rfl, ?hy16⟩) (by assumption) ?rest16; (case hy16 => (intro w hSw; obtain ⟨hz0, hz1, hz2, hz3, hz4, hz5, hz6, hz7, hz8, hz9⟩ := hSw.out.cells; go_simp <;> with_reducible rfl)); simp only [List.getElem_toArray, List.getElem_cons_succ, List.getElem_cons_zero, Act.put, List.setIfInBounds_toArray, List.set_cons_zero, List.set_cons_succ]); (refine' wpAnyH_take (i := 7) (v := _) rfl (by kernel_rfl) (by kernel_rfl) (by kernel_rfl) (fun _ _ _ h => h) (Or.inl ⟨by rfl, ?hy17⟩) (by assumption) ?rest17; (case hy17 => (intro w hSw; obtain ⟨hz0, hz1, hz2, hz3, hz4, hz5, hz6, hz7, hz8, hz9⟩ := hSw.out.cells; go_simp <;> with_reducible rfl)); simp only [List.getElem_toArray, List.getElem_cons_succ, List.getElem_cons_zero, Act.put, List.setIfInBounds_toArray, List.set_cons_zero, List.set_cons_succ]); (refine' wpAnyH_take (i := 8) (v := _) rfl (by kernel_rfl) (by kernel_rfl) (by kernel_rfl) (fun _ _ _ h => h) (Or.inl ⟨by rfl, ?hy18⟩) (by assumption) ?rest18; (case hy18 => (intro w hSw; obtain ⟨hz0, hz1, hz2, hz3, hz4, hz5, hz6, hz7, hz8, hz9⟩ := hSw.out.cells; go_simp <;> with_reducible rfl)); simp only [List.getElem_toArray, List.getElem_cons_succ, List.getElem_cons_zero, Act.put, List.setIfInBounds_toArray, List.set_cons_zero, List.set_cons_succ]); (refine' wpAnyH_take (i := 9) (v := _) rfl (by kernel_rfl) (by kernel_rfl) (by kernel_rfl) (fun _ _ _ h => h) (Or.inl ⟨by rfl, ?hy19⟩) (by assumption) ?rest19; (case hy19 => (intro w hSw; obtain ⟨hz0, hz1, hz2, hz3, hz4, hz5, hz6, hz7, hz8, hz9⟩ := hSw.out.cells; go_simp <;> with_reducible rfl)); simp only [List.getElem_toArray, List.getElem_cons_succ, List.getElem_cons_zero, Act.put, List.setIfInBounds_toArray, List.set_cons_zero, List.set_cons_succ]))
      refine wpAnyH_ready (rs := [10]) (by kernel_rfl) (by simp) ?_
      refine AllReadyH.cons rfl (fun K hK => ?_) AllReadyH.nil
      rw [if_pos (by rfl)]
      go_simp
      refine hnx.out.mono ?_
      rintro e' w3 ⟨rfl, d, hd⟩
      have HC3 := box (show Calm w2 w3 from by rw [hd]; exact ((Calm.refl w2).drewN 1).drewN d)
      have HK3 := box (HK.out.calm HC3.out)
      clear hd hnx
      go_wp2_with fail
      refine hK.out _ _ HK3 (fun g1 => ?_)
      clear hK K
      try simp only [List.getElem_toArray, List.getElem_cons_succ, List.getElem_cons_zero, Act.put, List.setIfInBounds_toArray, List.set_cons_zero, List.set_cons_succ]
      ((refine' wpAnyH_take (i := 11) (v := _) rfl (by kernel_rfl) (by kernel_rfl) (by kernel_rfl) (fun _ _ _ h => h) (Or.inl ⟨by rfl, ?hy20⟩) (by assumption) ?rest20; (case hy20 => (intro w hSw; obtain ⟨hz0, hz1, hz2, hz3, hz4, hz5, hz6, hz7, hz8, hz9⟩ := hSw.out.cells; go_simp <;> with_reducible rfl)); simp only [List.getElem_toArray, List.getElem_cons_succ, List.getElem_cons_zero, Act.put, List.setIfInBounds_toArray, List.set_cons_zero, List.set_cons_succ]))
      obtain ⟨v4, w4, happ, hrow4, hk4⟩ := append_q (w.heap.size + 1) w3 _ (dn.map Qe.tell) y.tell (own_calm Hrow2.out HC3.out) (Nat.le_trans HB.out HC3.out.size) hdl 54
      simp only [Qe.tell] at happ
      have hS4 : Kh w1.heap.size y.x y.r y.q.t y.q.n y.q.base y.q.least w4 := by
        have hvb := (own_calm Hrow2.out HC3.out : qRow (w.heap.size + 1) w3 _ (dn.map Qe.tell))
        refine ⟨(hk4.block _ (heap_lt HK3.out.key) (fun e => ?_)).trans HK3.out.key, (hk4.block _ (heap_lt HK3.out.obj) (fun e => ?_)).trans HK3.out.obj⟩
        · obtain ⟨c, hc⟩ := own_row hvb e
          rw [HK3.out.key] at hc; simp only [Option.some.injEq, Obj.cells.injEq] at hc; exact absurd hc.2.1 (by decide)
        · obtain ⟨c, hc⟩ := own_row hvb e
          rw [HK3.out.obj] at hc; simp only [Option.some.injEq, Obj.cells.injEq] at hc; exact absurd hc.2.1 (by decide)
      have HS4 := box hS4
      have Hrow4 := box hrow4
      have HK3b := box (HK3.out.calm ((Calm.refl w3).alloc (.cells #[.string y.q.t, .int .i64 (y.q.n : Int), .int .i64 (y.q.least : Int), .int .i64 (y.q.next : Int)] 57)))
      have Hk4 := box hk4
      clear hS4 hrow4 hk4
      refine wpAnyH_ready (rs := [12]) (by kernel_rfl) (by simp) ?_
      refine AllReadyH.cons rfl (fun K hK => ?_) AllReadyH.nil
      rw [if_pos (by rfl)]
      go_simp
      refine hK.out _ _ HK3b (fun g2 => ?_)
      clear hK K
      try simp only [List.getElem_toArray, List.getElem_cons_succ, List.getElem_cons_zero, Act.put, List.setIfInBounds_toArray, List.set_cons_zero, List.set_cons_succ]
      refine wpAnyH_ready (rs := [13]) (by kernel_rfl) (by simp) ?_
      refine AllReadyH.cons rfl (fun K hK => ?_) AllReadyH.nil
      refine step_append rfl (.tmp 18) (.tmp 30) 54 rfl _ _ (by simp [Act.eval, Act.put]) (by simp [Act.eval, Act.put]) _ w4 happ ?_
      refine hK.out _ _ HS4 (fun g3 => ?_)
      clear hK K
      try simp only [List.getElem_toArray, List.getElem_cons_succ, List.getElem_cons_zero, Act.put, List.setIfInBounds_toArray, List.set_cons_zero, List.set_cons_succ]
      ((refine' wpAnyH_take (i := 14) (v := _) rfl (by kernel_rfl) (by kernel_rfl) (by kernel_rfl) (fun _ _ _ h => h) (Or.inl ⟨by rfl, ?hy21⟩) (by assumption) ?rest21; (case hy21 => (intro w hSw; (try dsimp only at hSw); go_simp <;> with_reducible rfl)); simp only [List.getElem_toArray, List.getElem_cons_succ, List.getElem_cons_zero, Act.put, List.setIfInBounds_toArray, List.set_cons_zero, List.set_cons_succ]))
      refine wpAnyH_done (by kernel_rfl) ?_ _
      have hvb := fun b hb => ((own_calm Hrow2.out HC3.out : qRow (w.heap.size + 1) w3 _ (dn.map Qe.tell)).lt b hb)
      have Hr4 := box (show RangeOf Tryz.prog 119 w4 mb w.heap.size (es.map encE) ((L1 ++ L2).map encE) from by
        have h3 := Hr2.out.calm HC3.out
        rw [List.map_append]
        exact h3.same (Hk4.out.block _ h3.map.lt (fun e => by have := (hvb _ e).1; omega)) (Hk4.out.block _ h3.lt (fun e => by have := (hvb _ e).1; omega)))
      have HC4 := box (show Calm w w4 from Below.trans (Hc2.out.trans HC3.out) (Hk4.out.below (Hc2.out.trans HC3.out).size (fun b hb => by have := (hvb b hb).1; omega)))
      have Hs4 := box (show w.heap.size + 1 ≤ w4.heap.size from Nat.le_trans (Nat.le_trans HB.out HC3.out.size) Hk4.out.size)
      clear hvb happ
      go_wp2_with fail
      go_roundw
      case rel => exact ⟨L1 ++ L2, dn ++ [y], Hr4.out, by
        refine List.Perm.trans ?_ hperm.out
        rw [List.append_assoc]
        refine List.Perm.append_left _ ?_
        show (y :: (L1 ++ L2)).Perm (L1 ++ y :: L2)
        exact List.perm_middle.symm, by rw [List.map_append]; exact Hrow4.out, HC4.out, Hs4.out⟩
      case measure => rw [Hr4.out.left_eq, HrL.out]; simp
end
end Go.Proofs.YtdepejneliacpaaGreatDoor.cq

/- Layer 10: a queue is trimmed. -/
namespace Go.Proofs.YtdepejneliacpaaGreatDoor.cq
open Go.ChangeShapes Go.WideShapes Go.ChangeAt Go.RowKit Go.ChangeMaps
open Go.Proofs.YtdepejneliacpaaGreatDoor.dk Go.Proofs.YtdepejneliacpaaGreatDoor.sg Go.Proofs.YtdepejneliacpaaGreatDoor.en Go.Proofs.YtdepejneliacpaaGreatDoor.nm

section
variable {B : ByteArray → Option ByteArray} {W w w' : World} {g p mb n c m r : Nat} {D : DiskS} {R : RowS} {F : Nat → Prop} {v : Value} {es l1 l2 : List Qe} {e : Qe} {t : ByteArray} {k : Int}
theorem CqAt.drop (h : CqAt B W g p mb n c m D F (l1 ++ e :: l2) w) (hn : n ≤ 1000000) (h2 : e.R.start + 200 < e.R.fin) (h3 : e.R.start + 200 ≤ 20 * (e.q.least - e.q.base)) :
    Calls Tryz.prog 92 #[ptrTo e.r] w fun e' w' => e' = .returned (.tuple #[.int .i64 ((e.R.start + 200 : Nat) : Int), .int .i64 0]) ∧ ∃ D' F' v', CqAt B W g p mb n c m D' F' (l1 ++ ⟨e.q, e.x, e.r, e.R.rest, v'⟩ :: l2) w' ∧ KeptQ w w' := by
  have he := h.rows e (List.mem_append_right _ (List.mem_cons_self ..))
  have hsz := he.rowed.size
  have h4 := two_iff he.lw.holds.ok he.rowed.tight
  rw [hsz] at h4
  refine (he.lw.drop hn).mono ?_
  rintro e' w' (⟨hb, _⟩ | ⟨hb, rfl, D', hx⟩)
  · have := h4.2 h2; omega
  · have hbytes : (e.q.bytes e.R.start).drop e.R.size = e.q.bytes e.R.rest.start := by
      rw [hsz, QS.rest_bytes]
      show e.q.bytes (e.R.start + 200) = e.q.bytes (e.R.start + e.R.size)
      rw [hsz]
    rw [hbytes] at hx
    obtain ⟨F', v', h5, h6⟩ := h.next (q' := e.q) hx (he.rowed.rest he.lw.holds.ok hb h3) rfl rfl rfl rfl rfl
    exact ⟨by rw [hsz], D', F', v', h5, h6⟩
/-- What trimming leaves of a row. -/
structure Trimmed (R R' : RowS) (q : QS) : Prop where
  from_ : R.start ≤ R'.start
  stop : R'.fin ≤ R'.start + 200 ∨ 20 * (q.least - q.base) < R'.start + 200
  or : R'.start = R.start ∨ R'.start < R'.fin
set_option maxRecDepth 100000 in
set_option maxHeartbeats 8000000 in
theorem trim_any (h : CqAt B W g p mb n c m D F (l1 ++ e :: l2) w) (begin_ : Int) (hn : n ≤ 1000000) :
    Calls Tryz.prog 69 #[ptrTo e.x, .int .i64 begin_] w fun e' w' => e' = .returned (.int .i64 0) ∧ ∃ D' F' R' v', CqAt B W g p mb n c m D' F' (l1 ++ ⟨e.q.from_ (e.q.far fun y => decide (y.a < begin_)), e.x, e.r, R', v'⟩ :: l2) w' ∧ KeptQ w w' ∧ Trimmed e.R R' (e.q.from_ (e.q.far fun y => decide (y.a < begin_))) := by
  obtain ⟨⟨qt, qn, bb, ls, L⟩, x, rr, R0, v0⟩ := e
  have he0 := (h.rows _ (List.mem_append_right _ (List.mem_cons_self ..))).rowed
  simp only at he0
  have hfar := box (fun {j : Nat} (h1 : ls ≤ j) (h2 : j ≤ (⟨qt, qn, bb, ls, L⟩ : QS).far fun y => decide (y.a < begin_)) => QS.far_iff he0 (fun y => decide (y.a < begin_)) h1 h2)
  have hfl := QS.far_le he0 (fun y => decide (y.a < begin_))
  have hst0 := he0.start
  have hlo := he0.low
  have hhi := he0.high
  have hbas := he0.base
  have hlen := he0.len
  have hf0 := he0.fin
  simp only at hst0 hlo hhi hbas hlen hf0 hfl hfar ⊢
  have HC0 := box h
  obtain ⟨fin0, hfe⟩ : ∃ f, 20 * L.length = f := ⟨_, rfl⟩
  rw [hfe] at hf0
  have hfin0 := box hf0
  obtain ⟨fr, hfr⟩ : ∃ fr, ((⟨qt, qn, bb, ls, L⟩ : QS).far fun y => decide (y.a < begin_)) = fr := ⟨_, rfl⟩
  rw [hfr] at hfl
  have Hfr := box hfr
  have hgoal : (⟨qt, qn, bb, ls, L⟩ : QS).from_ ((⟨qt, qn, bb, ls, L⟩ : QS).far fun y => decide (y.a < begin_)) = ⟨qt, qn, bb, fr, L⟩ := by rw [hfr]; rfl
  rw [hgoal]
  have hgg0 := box (show fin0 - R0.start + R0.start = fin0 by omega)
  obtain ⟨nx, hnx0⟩ : ∃ nx, bb + L.length = nx := ⟨_, rfl⟩
  have hfl1 : ls ≤ fr := hfl.1
  have hfl2 : fr ≤ nx := by omega
  clear h hfr hf0 hgoal hfl he0
  go_enter Tryz.func69, Tryz.ntmps69
  go_wp2_with fail
  go_loopg [] (nx - ls) (fun gg wr => ∃ k : Nat, gg + k = nx ∧ ls ≤ k ∧ k ≤ fr ∧ Box (CqAt B W g p mb n c m D F (l1 ++ ⟨⟨qt, qn, bb, k, L⟩, x, rr, R0, v0⟩ :: l2) wr) ∧ Box (KeptQ w wr))
  case atStart => exact ⟨ls, by omega, Nat.le_refl _, hfl1, HC0, box (.calm (.refl _))⟩
  case round =>
    clear HC0
    obtain ⟨k, hgk, hk1, hk2, HC, HK⟩ := hrel
    obtain ⟨wo, hwo⟩ : ∃ wo : World, wo = wr := ⟨_, rfl⟩
    subst hwo
    have hq := HC.out.rows ⟨⟨qt, qn, bb, k, L⟩, x, rr, R0, v0⟩ (List.mem_append_right _ (List.mem_cons_self ..))
    have hnx := box (fun d => (show Calls Tryz.prog 63 #[ptrTo x] (wo.drewN d) (fun e' w' => e' = .returned (.int .i64 (nx : Int)) ∧ ∃ m, w' = wo.drewN m) from by
      have h := next_quiet wo d hq
      rw [show QS.next ⟨qt, qn, bb, k, L⟩ = nx from hnx0] at h
      exact h))
    have hat := box (fun (i : Nat) (hi : i < L.length) (hs : R0.start ≤ 20 * i) (W' : World) (hc : Calm wo W') => (show Calls Tryz.prog 66 #[ptrTo x, .int .i64 ((bb + i : Nat) : Int)] W' (fun e' w' => e' = .returned (.tuple #[.agg (L[i]).cells, .int .i64 0]) ∧ Calm W' w') from at_any W' (hq.calm hc) hi hs))
    obtain ⟨c0, c1, c2, clt⟩ := hq.cells
    have hf1 := hfar.out hk1 (by rw [Hfr.out]; exact hk2)
    rw [Hfr.out] at hf1
    have Hf1 := box hf1
    have f2 := free_of hq.obj 2
    simp only at c0 c1 c2 clt f2
    clear hf1 hq
    by_cases hlt : k < nx
    · have t1 : decide (k < nx) = true := decide_eq_true hlt
      obtain ⟨i, rfl⟩ : ∃ i, k = bb + i := ⟨k - bb, by omega⟩
      have hi : i < L.length := by omega
      have hat1 := box (fun W' hc => hat.out i hi (by omega) W' hc)
      obtain ⟨y, hy⟩ : ∃ y, L[i] = y := ⟨_, rfl⟩
      have Hy := box hy
      rw [hy] at hat1
      obtain ⟨ya, yb, yc, yd⟩ := y
      simp only [P4.cells] at hat1
      clear hat hy
      go_wp2_with (first | go_quiet ((go_at_call 63; exact hnx.out _)) | fail)
      have hat2 := box (hat1.out (wo.drewN nq) ((Calm.refl wo).drewN nq))
      have HC2 := box (HC.out.cale ((Calm.refl wo).drewN nq))
      have HK2 := box (HK.out.trans (.calm ((Calm.refl wo).drewN nq)))
      refine hat2.out.mono ?_
      rintro e' w3 ⟨rfl, hc3⟩
      have HC3 := box ((HC2.out.cale hc3).cale ((Calm.refl w3).alloc (.cells #[.int .i64 ya, .int .i64 yb, .int .i64 yc, .int .i64 yd] 33)))
      have HK3 := box ((HK2.out.trans (.calm hc3)).trans (.calm ((Calm.refl w3).alloc (.cells #[.int .i64 ya, .int .i64 yb, .int .i64 yc, .int .i64 yd] 33))))
      clear hc3 hat1 hat2 HC2 HK2 c0 c1 c2 clt f2 hnx HC HK
      by_cases hb : begin_ ≤ ya
      · have t2 : decide (begin_ ≤ ya) = true := decide_eq_true hb
        have hje : bb + i = fr := by
          by_cases hx : bb + i < fr
          · obtain ⟨hk, hp⟩ := Hf1.out.1 hx
            simp only [Nat.add_sub_cancel_left] at hp
            rw [Hy.out] at hp
            have := of_decide_eq_true hp
            simp only at this
            omega
          · omega
        rw [hje] at HC3
        clear Hf1 hje
        have HC := HC3
        have HK := HK3
        clear HC3 HK3
        go_wp2_with fail
        go_loopg [] (fin0 - R0.start) (fun gg wr => ∃ (R : RowS) (v : Value) (D : DiskS) (F : Nat → Prop), gg + R.start = fin0 ∧ R.fin = fin0 ∧ R0.start ≤ R.start ∧ (R.start = R0.start ∨ R.start < fin0) ∧ Box (CqAt B W g p mb n c m D F (l1 ++ ⟨⟨qt, qn, bb, fr, L⟩, x, rr, R, v⟩ :: l2) wr) ∧ Box (KeptQ w wr))
        case atStart => exact ⟨R0, v0, D, F, hgg0.out, hfin0.out, Nat.le_refl _, .inl rfl, HC, HK⟩
        case round =>
          clear HC HK
          obtain ⟨R, v, D', F', hgg, hRf, hst, hor, HC, HK⟩ := hrel
          obtain ⟨wi, hwi⟩ : ∃ wi : World, wi = wr := ⟨_, rfl⟩
          subst hwi
          have hq := HC.out.rows ⟨⟨qt, qn, bb, fr, L⟩, x, rr, R, v⟩ (List.mem_append_right _ (List.mem_cons_self ..))
          have hrow := hq.lw.seg.row
          have hro := hq.rowed
          obtain ⟨c0, c1, c2, clt⟩ := hq.cells
          have HE := box (fun k => End_quiet wi k hrow)
          have HB := box (fun k => Begin_quiet wi k hrow)
          simp only at HE HB c0 c1 c2 clt
          rw [hRf] at HE
          have hmod := hq.lw.holds.ok.mod
          have hRs := hro.size
          have hrs := hro.start
          simp only at hmod hRs hrs
          rw [hRs] at hmod
          have HRs := box hRs
          obtain ⟨st, hste⟩ : ∃ st, R.start = st := ⟨_, rfl⟩
          rw [hste] at HB hmod hrs hgg hst hor
          have hz : (st + 200) / 20 * 20 = st + 200 := by omega
          obtain ⟨z, hze⟩ : ∃ z, (st + 200) / 20 = z := ⟨_, rfl⟩
          have z1 : ((st : Int) + 200).tdiv 20 = (z : Int) := by rw [Int.tdiv_eq_ediv_of_nonneg (by omega)]; omega
          have z2 : ((st : Int) + 200) / 20 = (z : Int) := by omega
          rw [hze] at hz
          have hsb : st ≤ 200000 := by omega
          have hzb : z ≤ 20000 := by omega
          have k1 : IntKind.i64.wrap ((st : Int) + 200) = (st : Int) + 200 := IntWalk.i64_in _ (by omega)
          have k2 : IntKind.i64.wrap (z : Int) = (z : Int) := IntWalk.i64_in _ (by omega)
          have k3 : IntKind.i64.wrap ((bb : Int) + (z : Int)) = (bb : Int) + (z : Int) := IntWalk.i64_in _ (by omega)
          have Hst := box hste
          clear hq hrow hro hste hze hRs
          by_cases hA : st + 200 < fin0
          · have tA : decide (st + 200 < fin0) = true := decide_eq_true hA
            have tA2 : decide ((st : Int) + 200 < (fin0 : Int)) = true := decide_eq_true (by omega)
            by_cases hB : bb + z ≤ fr
            · have tB : decide (bb + z ≤ fr) = true := decide_eq_true hB
              have tB2 : decide ((bb : Int) + (z : Int) ≤ (fr : Int)) = true := decide_eq_true (by omega)
              go_wp2_with (first | go_quiet (first | (go_at_call 85; exact HE.out _) | (go_at_call 91; exact HB.out _)) | fail)
              have HC2 := box (HC.out.cale ((Calm.refl wi).drewN nq))
              have HK2 := box (HK.out.trans (.calm ((Calm.refl wi).drewN nq)))
              have hdr := box (show Calls Tryz.prog 92 #[ptrTo rr] (wi.drewN nq) (fun e' w' => e' = .returned (.tuple #[.int .i64 ((st + 200 : Nat) : Int), .int .i64 0]) ∧ ∃ D' F' v', CqAt B W g p mb n c m D' F' (l1 ++ ⟨⟨qt, qn, bb, fr, L⟩, x, rr, R.rest, v'⟩ :: l2) w' ∧ KeptQ (wi.drewN nq) w') from by
                rw [← Hst.out]
                exact HC2.out.drop hn (by show R.start + 200 < R.fin; rw [Hst.out]; omega) (by show R.start + 200 ≤ 20 * (fr - bb); rw [Hst.out]; omega))
              refine hdr.out.mono ?_
              rintro e' w5 ⟨rfl, D5, F5, v5, h5, k5⟩
              have H5 := box h5
              have K5 := box (HK2.out.trans k5)
              clear h5 k5 hdr
              go_wp2_with fail
              go_roundg (gk - 200)
              case measure => omega
              case rel => exact ⟨R.rest, v5, D5, F5, by show gk - 200 + (R.start + R.size) = fin0; rw [Hst.out, HRs.out]; omega, hRf, by show R0.start ≤ R.start + R.size; rw [Hst.out]; omega, .inr (by show R.start + R.size < fin0; rw [Hst.out, HRs.out]; omega), H5, K5⟩
            · have tB : decide (bb + z ≤ fr) = false := decide_eq_false hB
              have tB2 : decide ((bb : Int) + (z : Int) ≤ (fr : Int)) = false := decide_eq_false (by omega)
              go_wp2_with (first | go_quiet (first | (go_at_call 85; exact HE.out _) | (go_at_call 91; exact HB.out _)) | fail)
              go_ret
              exact ⟨rfl, D', F', R, v, HC.out.cale ((Calm.refl wi).drewN nq), HK.out.trans (.calm ((Calm.refl wi).drewN nq)), ⟨by rw [Hst.out]; exact hst, .inr (by show 20 * (fr - bb) < R.start + 200; rw [Hst.out]; omega), by rw [Hst.out, hRf]; exact hor⟩⟩
          · have tA : decide (st + 200 < fin0) = false := decide_eq_false hA
            have tA2 : decide ((st : Int) + 200 < (fin0 : Int)) = false := decide_eq_false (by omega)
            go_wp2_with (first | go_quiet (first | (go_at_call 85; exact HE.out _) | (go_at_call 91; exact HB.out _)) | fail)
            go_ret
            exact ⟨rfl, D', F', R, v, HC.out.cale ((Calm.refl wi).drewN nq), HK.out.trans (.calm ((Calm.refl wi).drewN nq)), ⟨by rw [Hst.out]; exact hst, .inl (by rw [Hst.out, hRf]; omega), by rw [Hst.out, hRf]; exact hor⟩⟩
      · have t2 : decide (begin_ ≤ ya) = false := decide_eq_false hb
        have hjl : bb + i < fr := Hf1.out.2 ⟨by rw [Nat.add_sub_cancel_left]; exact hi, by
          simp only [Nat.add_sub_cancel_left]
          rw [Hy.out]
          exact decide_eq_true (by simp only; omega)⟩
        clear Hf1
        have hq3 := HC3.out.rows ⟨⟨qt, qn, bb, bb + i, L⟩, x, rr, R0, v0⟩ (List.mem_append_right _ (List.mem_cons_self ..))
        obtain ⟨c0, c1, c2, clt⟩ := hq3.cells
        have f2 := free_of hq3.obj 2
        simp only at c0 c1 c2 clt f2
        have hput := HC3.out.put (k := bb + i + 1) (by show bb + i ≤ _; omega) (by show bb + i + 1 ≤ bb + L.length; omega)
        have HP := box hput.1
        have HKP := box (HK3.out.trans hput.2)
        have k1 : IntKind.i64.wrap ((bb : Int) + (i : Int) + 1) = (bb : Int) + (i : Int) + 1 := IntWalk.i64_in _ (by omega)
        clear hq3 hput
        go_wp2_with fail
        go_roundg (gk - 1)
        case measure => omega
        case rel => exact ⟨bb + i + 1, by omega, by omega, by omega, HP, HKP⟩
    · have t1 : decide (k < nx) = false := decide_eq_false hlt
      have hje : fr = k := by omega
      subst hje
      clear hat
      go_wp2_with (first | go_quiet ((go_at_call 63; exact hnx.out _)) | fail)
      have HCq := box (HC.out.cale ((Calm.refl wo).drewN nq))
      have HKq := box (HK.out.trans (.calm ((Calm.refl wo).drewN nq)))
      clear HC HK c0 c1 c2 clt f2
      have HC := HCq
      have HK := HKq
      clear HCq HKq
      go_loopg [] (fin0 - R0.start) (fun gg wr => ∃ (R : RowS) (v : Value) (D : DiskS) (F : Nat → Prop), gg + R.start = fin0 ∧ R.fin = fin0 ∧ R0.start ≤ R.start ∧ (R.start = R0.start ∨ R.start < fin0) ∧ Box (CqAt B W g p mb n c m D F (l1 ++ ⟨⟨qt, qn, bb, fr, L⟩, x, rr, R, v⟩ :: l2) wr) ∧ Box (KeptQ w wr))
      case atStart => exact ⟨R0, v0, D, F, hgg0.out, hfin0.out, Nat.le_refl _, .inl rfl, HC, HK⟩
      case round =>
        clear HC HK
        obtain ⟨R, v, D', F', hgg, hRf, hst, hor, HC, HK⟩ := hrel
        obtain ⟨wi, hwi⟩ : ∃ wi : World, wi = wr := ⟨_, rfl⟩
        subst hwi
        have hq := HC.out.rows ⟨⟨qt, qn, bb, fr, L⟩, x, rr, R, v⟩ (List.mem_append_right _ (List.mem_cons_self ..))
        have hrow := hq.lw.seg.row
        have hro := hq.rowed
        obtain ⟨c0, c1, c2, clt⟩ := hq.cells
        have HE := box (fun k => End_quiet wi k hrow)
        have HB := box (fun k => Begin_quiet wi k hrow)
        simp only at HE HB c0 c1 c2 clt
        rw [hRf] at HE
        have hmod := hq.lw.holds.ok.mod
        have hRs := hro.size
        have hrs := hro.start
        simp only at hmod hRs hrs
        rw [hRs] at hmod
        have HRs := box hRs
        obtain ⟨st, hste⟩ : ∃ st, R.start = st := ⟨_, rfl⟩
        rw [hste] at HB hmod hrs hgg hst hor
        have hz : (st + 200) / 20 * 20 = st + 200 := by omega
        obtain ⟨z, hze⟩ : ∃ z, (st + 200) / 20 = z := ⟨_, rfl⟩
        have z1 : ((st : Int) + 200).tdiv 20 = (z : Int) := by rw [Int.tdiv_eq_ediv_of_nonneg (by omega)]; omega
        have z2 : ((st : Int) + 200) / 20 = (z : Int) := by omega
        rw [hze] at hz
        have hsb : st ≤ 200000 := by omega
        have hzb : z ≤ 20000 := by omega
        have k1 : IntKind.i64.wrap ((st : Int) + 200) = (st : Int) + 200 := IntWalk.i64_in _ (by omega)
        have k2 : IntKind.i64.wrap (z : Int) = (z : Int) := IntWalk.i64_in _ (by omega)
        have k3 : IntKind.i64.wrap ((bb : Int) + (z : Int)) = (bb : Int) + (z : Int) := IntWalk.i64_in _ (by omega)
        have Hst := box hste
        clear hq hrow hro hste hze hRs
        by_cases hA : st + 200 < fin0
        · have tA : decide (st + 200 < fin0) = true := decide_eq_true hA
          have tA2 : decide ((st : Int) + 200 < (fin0 : Int)) = true := decide_eq_true (by omega)
          by_cases hB : bb + z ≤ fr
          · have tB : decide (bb + z ≤ fr) = true := decide_eq_true hB
            have tB2 : decide ((bb : Int) + (z : Int) ≤ (fr : Int)) = true := decide_eq_true (by omega)
            go_wp2_with (first | go_quiet (first | (go_at_call 85; exact HE.out _) | (go_at_call 91; exact HB.out _)) | fail)
            have HC2 := box (HC.out.cale ((Calm.refl wi).drewN nq))
            have HK2 := box (HK.out.trans (.calm ((Calm.refl wi).drewN nq)))
            have hdr := box (show Calls Tryz.prog 92 #[ptrTo rr] (wi.drewN nq) (fun e' w' => e' = .returned (.tuple #[.int .i64 ((st + 200 : Nat) : Int), .int .i64 0]) ∧ ∃ D' F' v', CqAt B W g p mb n c m D' F' (l1 ++ ⟨⟨qt, qn, bb, fr, L⟩, x, rr, R.rest, v'⟩ :: l2) w' ∧ KeptQ (wi.drewN nq) w') from by
              rw [← Hst.out]
              exact HC2.out.drop hn (by show R.start + 200 < R.fin; rw [Hst.out]; omega) (by show R.start + 200 ≤ 20 * (fr - bb); rw [Hst.out]; omega))
            refine hdr.out.mono ?_
            rintro e' w5 ⟨rfl, D5, F5, v5, h5, k5⟩
            have H5 := box h5
            have K5 := box (HK2.out.trans k5)
            clear h5 k5 hdr
            go_wp2_with fail
            go_roundg (gk - 200)
            case measure => omega
            case rel => exact ⟨R.rest, v5, D5, F5, by show gk - 200 + (R.start + R.size) = fin0; rw [Hst.out, HRs.out]; omega, hRf, by show R0.start ≤ R.start + R.size; rw [Hst.out]; omega, .inr (by show R.start + R.size < fin0; rw [Hst.out, HRs.out]; omega), H5, K5⟩
          · have tB : decide (bb + z ≤ fr) = false := decide_eq_false hB
            have tB2 : decide ((bb : Int) + (z : Int) ≤ (fr : Int)) = false := decide_eq_false (by omega)
            go_wp2_with (first | go_quiet (first | (go_at_call 85; exact HE.out _) | (go_at_call 91; exact HB.out _)) | fail)
            go_ret
            exact ⟨rfl, D', F', R, v, HC.out.cale ((Calm.refl wi).drewN nq), HK.out.trans (.calm ((Calm.refl wi).drewN nq)), ⟨by rw [Hst.out]; exact hst, .inr (by show 20 * (fr - bb) < R.start + 200; rw [Hst.out]; omega), by rw [Hst.out, hRf]; exact hor⟩⟩
        · have tA : decide (st + 200 < fin0) = false := decide_eq_false hA
          have tA2 : decide ((st : Int) + 200 < (fin0 : Int)) = false := decide_eq_false (by omega)
          go_wp2_with (first | go_quiet (first | (go_at_call 85; exact HE.out _) | (go_at_call 91; exact HB.out _)) | fail)
          go_ret
          exact ⟨rfl, D', F', R, v, HC.out.cale ((Calm.refl wi).drewN nq), HK.out.trans (.calm ((Calm.refl wi).drewN nq)), ⟨by rw [Hst.out]; exact hst, .inl (by rw [Hst.out, hRf]; omega), by rw [Hst.out, hRf]; exact hor⟩⟩
end
end Go.Proofs.YtdepejneliacpaaGreatDoor.cq

/- Layer 10: all queues are trimmed. -/
namespace Go.Proofs.YtdepejneliacpaaGreatDoor.cq
open Go.ChangeShapes Go.WideShapes Go.ChangeAt Go.RowKit Go.ChangeMaps
open Go.Proofs.YtdepejneliacpaaGreatDoor.dk Go.Proofs.YtdepejneliacpaaGreatDoor.sg

/-- What is left of a queue's entries. -/
def QS.cut (q : QS) (b : Int) : QS := q.from_ (q.far fun y => decide (y.a < b))
structure TrE (b : Int) (d : Prop) (e e' : Qe) : Prop where
  x : e'.x = e.x
  r : e'.r = e.r
  yes : d → e'.q = e.q.cut b ∧ Trimmed e.R e'.R (e.q.cut b)
  no : ¬ d → e'.q = e.q ∧ e'.R = e.R
/-- So many of them are trimmed. -/
structure TrS (b : Int) (M : List QT) (es es' : List Qe) : Prop where
  len : es'.length = es.length
  each : ∀ i (h : i < es.length) (h' : i < es'.length), TrE b (es[i].tell ∈ M) es[i] es'[i]
section
variable {B : ByteArray → Option ByteArray} {W w w' : World} {g p mb n c m r : Nat} {D : DiskS} {R : RowS} {F : Nat → Prop} {v : Value} {es l1 l2 : List Qe} {e : Qe} {t : ByteArray} {k : Int} {b : Int}
theorem TrS.start (b : Int) (es : List Qe) : TrS b [] es es := ⟨rfl, fun i h h' => ⟨rfl, rfl, fun h => (by cases h), fun _ => ⟨rfl, rfl⟩⟩⟩
theorem tell_off {es : List Qe} (h : es.Pairwise Qe.Off) {i j : Nat} (hi : i < es.length) (hj : j < es.length) (he : es[i].tell = es[j].tell) : i = j := by
  have hk : ∀ i j (hi : i < es.length) (hj : j < es.length), i < j → es[i].tell ≠ es[j].tell := fun i j hi hj hij e => by
    have h1 := List.pairwise_iff_getElem.1 h i j hi hj hij
    unfold Qe.tell at e
    simp only [QT.mk.injEq] at e
    exact h1.2 ⟨e.1, by have := e.2.1; omega⟩
  rcases Nat.lt_trichotomy i j with h1 | h1 | h1
  · exact absurd he (hk i j hi hj h1)
  · exact h1
  · exact absurd he.symm (hk j i hj hi h1)
theorem tells_nodup (h : es.Pairwise Qe.Off) : (es.map Qe.tell).Nodup := by
  rw [List.nodup_iff_pairwise_ne, List.pairwise_map]
  refine h.imp ?_
  intro a c hac e
  unfold Qe.tell at e
  simp only [QT.mk.injEq] at e
  exact hac.2 ⟨e.1, by have := e.2.1; omega⟩
/-- One more is trimmed. -/
theorem TrS.next {M : List QT} {es es' : List Qe} (h : TrS b M es es') (ho : es.Pairwise Qe.Off) {i : Nat} (hi : i < es.length) (hi' : i < es'.length) (hM : ¬ es[i].tell ∈ M) {R' : RowS} {v' : Value} (hT : Trimmed es[i].R R' (es[i].q.cut b)) :
    TrS b (M ++ [es[i].tell]) es (es'.set i ⟨es'[i].q.cut b, es'[i].x, es'[i].r, R', v'⟩) := by
  refine ⟨by rw [List.length_set]; exact h.len, fun j hj hj' => ?_⟩
  rw [List.length_set] at hj'
  have h1 := h.each j hj hj'
  rw [List.getElem_set]
  by_cases hij : i = j
  · subst hij
    rw [if_pos rfl]
    obtain ⟨h2, h3⟩ := h1.no hM
    refine ⟨h1.x, h1.r, fun _ => ⟨by show es'[i].q.cut b = _; rw [h2], hT⟩, fun hn => absurd (List.mem_append_right _ (List.mem_singleton.2 rfl)) hn⟩
  · rw [if_neg hij]
    refine ⟨h1.x, h1.r, fun hd => h1.yes ?_, fun hd => h1.no (fun hm => hd (List.mem_append_left _ hm))⟩
    rcases List.mem_append.1 hd with hd | hd
    · exact hd
    · rw [List.mem_singleton] at hd
      exact absurd (tell_off ho hj hi hd).symm hij
theorem set_split {l : List Qe} {i : Nat} (hi : i < l.length) : l = l.take i ++ l[i] :: l.drop (i + 1) := by
  rw [List.getElem_cons_drop, List.take_append_drop]
theorem set_is {l : List Qe} {i : Nat} (hi : i < l.length) (a : Qe) : l.set i a = l.take i ++ a :: l.drop (i + 1) := by
  rw [List.set_eq_take_append_cons_drop, if_pos hi]
set_option maxRecDepth 100000 in
set_option maxHeartbeats 8000000 in
theorem Trim_any (h : CqAt B W g p mb n c m D F es w) (begin_ : Int) (hl : es.length ≤ 1000000) (hn : n ≤ 1000000) :
    Calls Tryz.prog 24 #[ptrTo g, .int .i64 begin_] w fun e' w' => e' = .returned (.int .i64 0) ∧ ∃ D' F' es', CqAt B W g p mb n c m D' F' es' w' ∧ KeptQ w w' ∧ es'.length = es.length ∧ ∀ i (h : i < es.length) (h' : i < es'.length), es'[i].q = es[i].q.cut begin_ ∧ Trimmed es[i].R es'[i].R (es[i].q.cut begin_) := by
  have hall := box (All_any h hl)
  have H := box h
  have Hoff := box h.off
  have hks := box (fun e he => (⟨(h.rows e he).rowed.t, (h.rows e he).rowed.n⟩ : e.q.t.size ≤ 100 ∧ e.q.n < 3))
  clear h
  go_enter Tryz.func24, Tryz.ntmps24
  go_wp2_with fail
  refine hall.out.mono ?_
  rintro e' w1 ⟨v, L, rfl, hA, hQ, hc1⟩
  have HA := box hA
  have HQ := box hQ
  have HC := box (H.out.cale hc1)
  have HK := box (KeptQ.calm hc1)
  have hlen := hA.perm.length_eq
  rw [List.length_map] at hlen
  have hLb : L.length ≤ 1000000 := by omega
  have Hlen := box hlen
  clear hlen
  have hnd := box (hA.perm.nodup_iff.2 (tells_nodup Hoff.out))
  obtain ⟨a, cap, rfl, _⟩ := hQ
  clear hA hc1 hall H
  go_wp2_with fail
  go_loopw [13] (fun iv wr => ∃ (i : Nat) (D : DiskS) (F : Nat → Prop) (es' : List Qe), iv = .int .i64 (i : Int) ∧ i ≤ L.length ∧ Box (CqAt B W g p mb n c m D F es' wr) ∧ Box (KeptQ w wr) ∧ Box (QsAt wr (.slice a L.length cap) L) ∧ Box (TrS begin_ (L.take i) es es')) (fun iv _ => L.length - (intOf iv).toNat)
  case atStart => exact ⟨0, D, F, es, rfl, Nat.zero_le _, HC, HK, HQ, box (by rw [List.take_zero]; exact TrS.start _ _)⟩
  case round =>
    clear HC HK HQ
    obtain ⟨i, D', F', es', rfl, hi, HC, HK, HQ, HT⟩ := hrel
    obtain ⟨wo, hwo⟩ : ∃ wo : World, wo = wr := ⟨_, rfl⟩
    subst hwo
    by_cases hlt : i < L.length
    · have t1 : decide ((i : Int) < (L.length : Int)) = true := decide_eq_true (by omega)
      obtain ⟨a2, cap2, hv2, hcell⟩ := HQ.out.cells
      cases hv2
      obtain ⟨bb, rfl, hbl, d0, d1, d2, d3⟩ := hcell i hlt
      have hmem : L[i] ∈ es.map Qe.tell := HA.out.perm.mem_iff.1 (List.getElem_mem hlt)
      obtain ⟨j, hj, hje⟩ := List.getElem_of_mem hmem
      rw [List.length_map] at hj
      rw [List.getElem_map] at hje
      have hnot : ¬ es[j].tell ∈ L.take i := fun hm => by
        rw [hje] at hm
        obtain ⟨y, hy, hye⟩ := List.getElem_of_mem hm
        rw [List.length_take] at hy
        rw [List.getElem_take] at hye
        have := nodup_get hnd.out (by omega) hlt hye
        omega
      have hj' : j < es'.length := by rw [HT.out.len]; exact hj
      obtain ⟨hq', hR'⟩ := (HT.out.each j hj hj').no hnot
      have hsp := set_split hj'
      have hCs := HC.out
      rw [hsp] at hCs
      have hkj := hks.out es[j] (List.getElem_mem hj)
      have hLt : L[i].t = es[j].q.t := by rw [← hje]; rfl
      have hLn : L[i].n = (es[j].q.n : Int) := by rw [← hje]; rfl
      rw [hLt] at d0
      rw [hLn] at d1
      obtain ⟨Lz, hLz⟩ : ∃ z, L[i].least = z := ⟨_, rfl⟩
      obtain ⟨Lx, hLx⟩ : ∃ z, L[i].next = z := ⟨_, rfl⟩
      rw [hLz] at d2
      rw [hLx] at d3
      have hwf : (Lit.int .i64 (es[j].q.n : Int)).wf = true := by
        unfold Lit.wf
        simp [IntKind.min, IntKind.max, IntKind.bits, IntKind.signed]
        omega
      obtain ⟨wa, hwa⟩ : ∃ wa, wo.alloc (.cells #[.string es[j].q.t, .int .i64 (es[j].q.n : Int), .int .i64 Lz, .int .i64 Lx] 57) = wa := ⟨_, rfl⟩
      have hca : Calm wo wa := by rw [← hwa]; exact (Calm.refl wo).alloc _
      have Hca := box hca
      have Hblk := box (show wa.heap[wo.heap.size]? = some (.cells #[.string es[j].q.t, .int .i64 (es[j].q.n : Int), .int .i64 Lz, .int .i64 Lx] 57 (0, 0)) from by rw [← hwa]; exact heap_new wo _)
      have HCa := box (hCs.cale hca)
      have hof := box (of_found HCa.out (t := es[j].q.t) (k := (es[j].q.n : Int)) ⟨by rw [hq'], by rw [hq']⟩ (by unfold maxLen; omega) hwf)
      have htr := box (trim_any HCa.out begin_ hn)
      obtain ⟨xx, hxx⟩ : ∃ xx, es'[j].x = xx := ⟨_, rfl⟩
      rw [hxx] at hof htr
      obtain ⟨tj, htj⟩ : ∃ tj, es[j].q.t = tj := ⟨_, rfl⟩
      obtain ⟨nj, hnj⟩ : ∃ nj, es[j].q.n = nj := ⟨_, rfl⟩
      rw [htj] at d0 hof Hblk hwa
      rw [hnj] at d1 hof Hblk hwa
      have hsucc : L.take (i + 1) = L.take i ++ [es[j].tell] := by rw [List.take_succ_eq_append_getElem hlt, hje]
      have Hsu := box hsucc
      have Hlt := box hlt
      have Hq' := box hq'
      have HR' := box hR'
      have Hxx := box hxx
      have Hnot := box hnot
      clear hmem hje hnot hq' hR' hsp hCs hkj hLt hLn hLz hLx hwf hca hxx htj hnj hsucc HC hcell
      go_upto_region 6 with fail
      (try rw [hwa])
      have q0 := cell_of Hblk.out 0
      have q1 := cell_of Hblk.out 1
      have qlt := heap_lt Hblk.out
      clear d0 d1 d2 d3
      go_wp2_with fail
      refine hof.out.mono ?_
      rintro e' w3 ⟨rfl, rfl⟩
      go_wp2_with fail
      refine htr.out.mono ?_
      rintro e' w4 ⟨rfl, D4, F4, R4, v4, h4, k4, hT4⟩
      have hset : CqAt B W g p mb n c m D4 F4 (es'.set j ⟨es'[j].q.cut begin_, es'[j].x, es'[j].r, R4, v4⟩) w4 := by
        rw [set_is hj', Hxx.out]; exact h4
      have hK4 := (HK.out.trans (.calm Hca.out)).trans k4
      have hQ4 := (HQ.out.kept (.calm Hca.out)).kept k4
      have hT5 : Trimmed es[j].R R4 (es[j].q.cut begin_) := by
        have h9 := hT4
        rw [HR'.out, Hq'.out] at h9
        exact h9
      have hS5 := HT.out.next Hoff.out hj hj' Hnot.out (R' := R4) (v' := v4) hT5
      rw [← Hsu.out] at hS5
      have HC4 := box hset
      have HK4 := box hK4
      have HQ4 := box hQ4
      have HT4 := box hS5
      clear h4 k4 hT4 hset hK4 hQ4 hT5 hS5 htr hof q0 q1 qlt
      go_wp2_with fail
      go_roundw
      case rel => exact ⟨i + 1, D4, F4, _, by go_num, Hlt.out, HC4, HK4, HQ4, HT4⟩
      case measure =>
        have := Hlt.out
        simp [intOf]; omega
    · have t1 : decide ((i : Int) < (L.length : Int)) = false := decide_eq_false (by omega)
      have hie : i = L.length := by omega
      have hfin := HT.out
      rw [hie, List.take_length] at hfin
      have Hfin := box hfin
      clear hfin hie
      go_wp2_with fail
      go_ret
      exact ⟨rfl, D', F', es', HC.out, HK.out, Hfin.out.len, fun y hy hy' => (Hfin.out.each y hy hy').yes (HA.out.perm.mem_iff.2 (List.mem_map_of_mem (List.getElem_mem hy)))⟩
end
end Go.Proofs.YtdepejneliacpaaGreatDoor.cq

/- Layer 10: queues that aren't there. -/
namespace Go.Proofs.YtdepejneliacpaaGreatDoor.cq
open Go.ChangeShapes Go.WideShapes Go.ChangeAt Go.RowKit Go.ChangeMaps
open Go.Proofs.YtdepejneliacpaaGreatDoor.dk Go.Proofs.YtdepejneliacpaaGreatDoor.sg Go.Proofs.YtdepejneliacpaaGreatDoor.en Go.Proofs.YtdepejneliacpaaGreatDoor.nm

theorem AddNil_any (t : ByteArray) (k : Int) (w : World) : Calls Tryz.prog 15 #[.pointer none, .string t, .int .i64 k, .agg #[.int .i64 0, .int .i64 0, .int .i64 0, .int .i64 0]] w fun e w' => e = .returned (.tuple #[.int .i64 0, .int .i64 1]) ∧ Calm w w' := by
  go_enter Tryz.func15, Tryz.ntmps15
  go_wp2_with fail
  go_ret2
  refine ⟨rfl, ?_⟩
  first | exact Calm.refl _ | exact (Calm.refl _).alloc _
theorem BaseNil_any (t : ByteArray) (k a : Int) (w : World) : Calls Tryz.prog 18 #[.pointer none, .string t, .int .i64 k, .int .i64 a] w fun e w' => e = .returned (.int .i64 1) ∧ Calm w w' := by
  go_enter Tryz.func18, Tryz.ntmps18
  go_wp2_with fail
  go_ret
  refine ⟨rfl, ?_⟩
  first | exact Calm.refl _ | exact (Calm.refl _).alloc _
theorem TrimNil_any (a : Int) (w : World) : Calls Tryz.prog 24 #[.pointer none, .int .i64 a] w fun e w' => e = .returned (.int .i64 1) ∧ Calm w w' := by
  go_enter Tryz.func24, Tryz.ntmps24
  go_wp2_with fail
  go_ret
  refine ⟨rfl, ?_⟩
  first | exact Calm.refl _ | exact (Calm.refl _).alloc _
theorem AllNil_any (w : World) : Calls Tryz.prog 26 #[.pointer none] w fun e w' => e = .returned (.slice none 0 0) ∧ Calm w w' := by
  go_enter Tryz.func26, Tryz.ntmps26
  go_wp2_with fail
  go_ret
  refine ⟨rfl, ?_⟩
  first | exact Calm.refl _ | exact (Calm.refl _).alloc _
theorem LeastNil_any (t : ByteArray) (k : Int) (w : World) : Calls Tryz.prog 20 #[.pointer none, .string t, .int .i64 k] w fun e w' => e = .returned (.int .i64 0) ∧ Calm w w' := by
  have ho := box (of_nil t k w)
  go_enter Tryz.func20, Tryz.ntmps20
  go_wp2_with fail
  refine ho.out.mono ?_
  rintro e' w1 ⟨x, rfl, hx, hc1⟩
  have c2 := cell_of hx 2
  have hlt := heap_lt hx
  clear hx ho
  go_wp2_with fail
  go_ret
  exact ⟨rfl, hc1⟩
theorem NextNil_any (t : ByteArray) (k : Int) (w : World) : Calls Tryz.prog 19 #[.pointer none, .string t, .int .i64 k] w fun e w' => e = .returned (.int .i64 0) ∧ Calm w w' := by
  have ho := box (of_nil t k w)
  go_enter Tryz.func19, Tryz.ntmps19
  go_wp2_with fail
  refine ho.out.mono ?_
  rintro e' w1 ⟨x, rfl, hx, hc1⟩
  have hnx := box (next_no x w1 hx)
  have Hc := box hc1
  clear hx ho hc1
  go_wp2_with fail
  refine hnx.out.mono ?_
  rintro e' w2 ⟨rfl, d, rfl⟩
  go_wp2_with fail
  go_ret
  exact ⟨rfl, Hc.out.drewN d⟩
theorem SeekNil_any (t : ByteArray) (k b : Int) (w : World) : Calls Tryz.prog 16 #[.pointer none, .string t, .int .i64 k, .int .i64 b] w fun e w' => e = .returned (.int .i64 0) ∧ Calm w w' := by
  have ho := box (of_nil t k w)
  go_enter Tryz.func16, Tryz.ntmps16
  go_wp2_with fail
  refine ho.out.mono ?_
  rintro e' w1 ⟨x, rfl, hx, hc1⟩
  have c2 := cell_of hx 2
  have hlt := heap_lt hx
  have Hx := box hx
  have Hc := box hc1
  clear hx hc1 ho
  go_wp2_with fail
  go_loopw [10] (fun av wr => av = .int .i64 0 ∧ wr = w1) (fun _ _ => 0)
  case atStart => exact ⟨rfl, rfl⟩
  case round =>
    obtain ⟨rfl, rfl⟩ := hrel
    go_wp2_with fail
    refine (next_no x _ Hx.out).mono ?_
    rintro e' w2 ⟨rfl, d, rfl⟩
    go_wp2_with fail
    go_ret
    exact ⟨rfl, Hc.out.drewN d⟩
theorem AtNil_any (t : ByteArray) (k a : Int) (w : World) : Calls Tryz.prog 17 #[.pointer none, .string t, .int .i64 k, .int .i64 a] w fun e w' => e = .returned (.tuple #[noPlace, .int .i64 1]) ∧ Calm w w' := by
  obtain ⟨wa, hwa⟩ : ∃ wa, w.alloc (.cells #[.int .i64 0, .int .i64 0, .int .i64 0, .int .i64 0] 33) = wa := ⟨_, rfl⟩
  have hc : Calm w wa := by rw [← hwa]; exact (Calm.refl w).alloc _
  have Hnl := box (show wa.heap[w.heap.size]? = some (.cells #[.int .i64 0, .int .i64 0, .int .i64 0, .int .i64 0] 33 (0, 0)) from by rw [← hwa]; exact heap_new w _)
  have Hc := box hc
  clear hc
  have d0 := cell_of Hnl.out 0
  have d1 := cell_of Hnl.out 1
  have d2 := cell_of Hnl.out 2
  have d3 := cell_of Hnl.out 3
  have f0 := free_of Hnl.out 0
  have f1 := free_of Hnl.out 1
  have f2 := free_of Hnl.out 2
  have f3 := free_of Hnl.out 3
  have dlt := heap_lt Hnl.out
  have Hs := box (set4 (x0 := .int .i64 0) (x1 := .int .i64 0) (x2 := .int .i64 0) (x3 := .int .i64 0) Hnl.out)
  have HC3 := box (set4_calm (x0 := .int .i64 0) (x1 := .int .i64 0) (x2 := .int .i64 0) (x3 := .int .i64 0) Hc.out (Nat.le_refl _))
  go_enter Tryz.func17, Tryz.ntmps17
  go_wp2_with fail
  (try rw [hwa])
  go_wp2_with fail
  refine bodyPost_ret (ret_place rfl _ _ w.heap.size _ rfl Hs.out rfl) rfl ?_
  exact ⟨rfl, HC3.out⟩
end Go.Proofs.YtdepejneliacpaaGreatDoor.cq

/- CqFiles: what stands, file by file. -/
namespace Go.Proofs.YtdepejneliacpaaGreatDoor.cfiles
open Go.ChangeShapes Go.WideShapes Go.ChangeAt Go.RowKit Go.ChangeMaps
open Go.Proofs.YtdepejneliacpaaGreatDoor.dk Go.Proofs.YtdepejneliacpaaGreatDoor.sg Go.Proofs.YtdepejneliacpaaGreatDoor.cq

abbrev abN : ByteArray := ⟨#[97, 45, 98]⟩
abbrev otherN : ByteArray := ⟨#[111, 116, 104, 101, 114]⟩
abbrev leftN : ByteArray := ⟨#[113, 45, 108, 101, 102, 116]⟩
abbrev qabN : ByteArray := ⟨#[113, 45, 97, 45, 98, 46, 49, 45]⟩
theorem right_ab : rightC abN 1 = 0 := by kernel_rfl
theorem head_ab : headQ abN 1 = qabN := by kernel_rfl
def fL (j : Nat) : List P4 := (List.range j).map fun i : Nat => ⟨(i : Int), 0, 0, 0⟩
theorem fL_length (j : Nat) : (fL j).length = j := by unfold fL; simp
theorem fL_succ (j : Nat) : fL (j + 1) = fL j ++ [⟨(j : Int), 0, 0, 0⟩] := by unfold fL; rw [List.range_succ, List.map_append]; rfl
theorem fL_get {j i : Nat} (h : i < (fL j).length) : (fL j)[i] = ⟨(i : Int), 0, 0, 0⟩ := by simp [fL]
def fQ (j t : Nat) : List QS := if j = 0 then [] else [⟨abN, 1, 0, t, fL j⟩]
def Sole (B : ByteArray → Option ByteArray) : Prop := ∀ s, Lib.hasPrefix s.data.toList qN.data.toList = false → ((B s).isSome = true ↔ s = otherN)
/-- The first segment's place. -/
def fS (i t : Nat) : Nat := 200 * min (t / 10) ((i - 1) / 10)
/-- What stands: so many entries, trimmed up to there. -/
structure Fi (W : World) (g p i t : Nat) (w : World) : Prop where
  at_ : ∃ B mb n m D F es, CqAt B W g p mb n 1048576 m D F es w ∧ Sole B ∧ es.map (·.q) = fQ i t ∧ n ≤ i ∧ m ≤ 2 + 21 * i ∧ ∀ e ∈ es, e.R.start = fS i t
section
variable {W w w' : World} {g p i t : Nat}
theorem Fi.calm (h : Fi W g p i t w) (hc : Calm w w') : Fi W g p i t w' := by
  obtain ⟨B, mb, n, m, D, F, es, h1, h2⟩ := h.at_
  exact ⟨B, mb, n, m, D, F, es, h1.cale hc, h2⟩
theorem Fi.owns (h : Fi W g p i t w) : Calm W w := by
  obtain ⟨B, mb, n, m, D, F, es, h1, h2⟩ := h.at_
  exact h1.calm
theorem fQ_pos (hi : 0 < i) : fQ i t = [⟨abN, 1, 0, t, fL i⟩] := by unfold fQ; rw [if_neg (by omega)]
theorem one_of {es : List Qe} (hi : 0 < i) (h : es.map (·.q) = fQ i t) : ∃ e, es = [e] ∧ e.q = ⟨abN, 1, 0, t, fL i⟩ := by
  rw [fQ_pos hi] at h
  obtain ⟨e, l2, rfl, h3, h4⟩ := List.map_eq_cons_iff.1 h
  rw [List.map_eq_nil_iff] at h4
  subst h4
  exact ⟨e, rfl, h3⟩
theorem none_of {es : List Qe} (h : es.map (·.q) = fQ 0 t) : es = [] := by
  unfold fQ at h
  rw [if_pos rfl, List.map_eq_nil_iff] at h
  exact h
/-- A file more. -/
theorem create_any {D : DiskS} {F : Nat → Prop} {n c m : Nat} {s : ByteArray} (w : World) (hd : DiskOk w p D F n) (ha : Able D c m) (hb : D.bytes s = none) (hs : s.size ≤ 1000) :
    Calls Tryz.prog 27 #[ptrTo p, .string s] w fun e w' => e = .returned (.int .i64 0) ∧ ∃ E F', DiskOk w' p E F' n ∧ Able E c (m + 1) ∧ But D E s ⟨#[]⟩ ∧ Step F w F' w' :=
  (Create_ok s w hd).mono fun e w' ⟨b, _, h⟩ => by
    obtain ⟨E, h1, h2, h3, _⟩ := ha.create hb hs b
    obtain ⟨he, F', h4, h5⟩ := h.at h1
    exact ⟨he, E, F', h4, h3, h2, h5⟩
theorem new_bytes (c : Int) (s : ByteArray) : (dk.new c).bytes s = none := rfl
theorem sole_two {D1 D2 : DiskS} {c : Int} (h1 : But (dk.new c) D1 otherN ⟨#[]⟩) (h2 : But D1 D2 leftN ⟨#[]⟩) : Sole D2.bytes := by
  intro s hs
  have hl : s ≠ leftN := fun e => by rw [e] at hs; exact absurd hs (by decide)
  rw [h2.others s hl]
  by_cases ho : s = otherN
  · subst ho
    rw [h1.this]
    simp
  · rw [h1.others s ho, new_bytes]
    simp [ho]
/-- Queues begin. -/
theorem begins {D : DiskS} {F : Nat → Prop} (hd : DiskOk w p D F 0) (ha : Able D 1048576 2) (hS : Sole D.bytes) (ht : Tab W) (hc : Calm W w) (hfW : ∀ b, F b → W.heap.size ≤ b) :
    Calls Tryz.prog 13 #[ptrTo p] w fun e w' => ∃ g, e = .returned (.tuple #[ptrTo g, .int .i64 0]) ∧ Fi W g p 0 0 w' := by
  refine (New_any hd ha ht hc hfW (by decide) (by decide)).mono ?_
  rintro e w' ⟨g, mb, D', F', rfl, h1, _, _⟩
  exact ⟨g, rfl, D.bytes, mb, 0, 2, D', F', [], h1, hS, rfl, Nat.le_refl _, Nat.le_refl _, fun e he => by cases he⟩
theorem Fi.add (h : Fi W g p i 0 w) (hi : i ≤ 100) :
    Calls Tryz.prog 15 #[ptrTo g, .string abN, .int .i64 1, .agg #[.int .i64 (i : Int), .int .i64 0, .int .i64 0, .int .i64 0]] w fun e w' => e = .returned (.tuple #[.int .i64 (i : Int), .int .i64 0]) ∧ Fi W g p (i + 1) 0 w' := by
  obtain ⟨B, mb, n, m, D, F, es, h1, hS, h2, h3, h4, h5⟩ := h.at_
  have hok : P4.ok ⟨(i : Int), 0, 0, 0⟩ = true := by rw [P4.ok_iff]; simp only; omega
  have hst : ∀ (x : RowS) (j : Nat), x.start ≤ 0 → x.start = fS j 0 := fun x j hx => by unfold fS; omega
  refine (show Calls Tryz.prog _ _ w _ from Add_any h1 abN 1 ⟨(i : Int), 0, 0, 0⟩ (by decide) (by decide) (by simp only [List.mem_cons, List.not_mem_nil, or_false]; rintro x (rfl | rfl | rfl | rfl) <;> omega) (by omega) (by omega) (by omega) (fun e he => by
    have : e.q ∈ fQ i 0 := by rw [← h2]; exact List.mem_map_of_mem he
    unfold fQ at this
    split at this
    · cases this
    · rw [List.mem_singleton] at this; rw [this]; show (fL i).length < _; rw [fL_length]; omega)).mono ?_
  rintro e w' ⟨_, ⟨h, _⟩ | ⟨_, h, _⟩ | ⟨_, _, l1, e1, l2, rfl, hk1, rfl, D', F', R', v', b⟩ | ⟨_, _, hno, rfl, D', F', R', v', b', r, b⟩⟩
  · exact absurd right_ab h
  · rw [hok] at h; cases h
  · have hi0 : 0 < i := by
      rcases Nat.eq_zero_or_pos i with h0 | h0
      · subst h0
        exact absurd (none_of h2) (by simp)
      · exact h0
    obtain ⟨e2, he, hq⟩ := one_of hi0 h2
    have hl := congrArg List.length he
    simp at hl
    have e3 : l1 = [] := List.eq_nil_of_length_eq_zero (by omega)
    have e4 : l2 = [] := List.eq_nil_of_length_eq_zero (by omega)
    subst e3 e4
    simp only [List.nil_append, List.cons.injEq, and_true] at he
    subst he
    have e5 : e1.q.next = i := by rw [hq]; show 0 + (fL i).length = i; rw [fL_length]; omega
    have hrow := (b.rows _ (List.mem_append_right _ (List.mem_cons_self ..))).rowed
    refine ⟨by rw [e5], B, mb, n + 1, m + 21, D', F', _, b, hS, ?_, by omega, by omega, fun e he => ?_⟩
    · simp only [List.nil_append, List.map_cons, List.map_nil]
      rw [fQ_pos (by omega), hq]
      show [QS.add ⟨abN, 1, 0, 0, fL i⟩ _] = _
      rw [fL_succ]; rfl
    · simp only [List.nil_append, List.mem_singleton] at he
      subst he
      refine hst _ _ ?_
      have := hrow.start
      simp only [QS.add, hq] at this
      omega
  · have hi0 : i = 0 := by
      rcases Nat.eq_zero_or_pos i with h0 | h0
      · exact h0
      · obtain ⟨e2, rfl, hq⟩ := one_of h0 h2
        exact absurd (by rw [hq]; exact ⟨rfl, rfl⟩) (hno e2 (List.mem_cons_self ..))
    subst hi0
    have he0 := none_of h2
    subst he0
    have hrow := (b.rows _ (List.mem_append_right _ (List.mem_cons_self ..))).rowed
    refine ⟨rfl, B, mb, n + 1, m + 21, D', F', _, b, hS, ?_, by omega, by omega, fun e he => ?_⟩
    · simp only [List.nil_append, List.map_cons, List.map_nil]
      rfl
    · simp only [List.nil_append, List.mem_singleton] at he
      subst he
      refine hst _ _ ?_
      have := hrow.start
      simp only [QS.add] at this
      omega
theorem far_t {R : RowS} (hi : 0 < i) (ht : t ≤ i) (h : Rowed R ⟨abN, 1, 0, 0, fL i⟩) : QS.far ⟨abN, 1, 0, 0, fL i⟩ (fun y => decide (y.a < (t : Int))) = t := by
  obtain ⟨f0, hf⟩ : ∃ f0, QS.far ⟨abN, 1, 0, 0, fL i⟩ (fun y => decide (y.a < (t : Int))) = f0 := ⟨_, rfl⟩
  have h1 := QS.far_le h (fun y => decide (y.a < (t : Int)))
  have h2 := fun k h1 h2 => @QS.far_iff R ⟨abN, 1, 0, 0, fL i⟩ h (fun y => decide (y.a < (t : Int))) k h1 h2
  simp only [hf, fL_length, Nat.zero_le, true_implies, Nat.sub_zero, fL_get, decide_eq_true_eq] at h1 h2
  rw [hf]
  rcases Nat.lt_trichotomy f0 t with h3 | h3 | h3
  · exact absurd ((h2 f0 (Nat.le_refl _)).2 ⟨by omega, by omega⟩) (by omega)
  · exact h3
  · obtain ⟨_, h4⟩ := (h2 t (by omega)).1 h3
    omega
theorem Fi.trim (h : Fi W g p i 0 w) (hi : i ≤ 100) (ht : t ≤ i) :
    Calls Tryz.prog 24 #[ptrTo g, .int .i64 (t : Int)] w fun e w' => e = .returned (.int .i64 0) ∧ Fi W g p i t w' := by
  obtain ⟨B, mb, n, m, D, F, es, h1, hS, h2, h3, h4, h5⟩ := h.at_
  have hlen : es.length ≤ 1 := by
    rcases Nat.eq_zero_or_pos i with h0 | h0
    · subst h0
      rw [none_of h2]; simp
    · obtain ⟨e2, rfl, hq⟩ := one_of h0 h2
      simp
  refine (Trim_any h1 (t : Int) (by omega) (by omega)).mono ?_
  rintro e w' ⟨rfl, D', F', es', b, _, hl, hE⟩
  rcases Nat.eq_zero_or_pos i with h0 | h0
  · subst h0
    have := none_of h2
    subst this
    have : es' = [] := List.eq_nil_of_length_eq_zero hl
    subst this
    exact ⟨rfl, B, mb, n, m, D', F', [], b, hS, rfl, h3, h4, fun e he => by cases he⟩
  · obtain ⟨e, rfl, hq⟩ := one_of h0 h2
    have hl1 : es'.length = 1 := hl
    obtain ⟨e', rfl⟩ := List.length_eq_one_iff.1 hl1
    obtain ⟨hq', hT⟩ := hE 0 (by simp) (by simp)
    simp only [List.getElem_cons_zero] at hq' hT
    have hr := (h1.rows e (List.mem_cons_self ..)).rowed
    have hr' := b.rows e' (List.mem_cons_self ..)
    have hr2 := hr'.rowed
    have hm := hr'.lw.holds.ok.mod
    rw [hr2.size] at hm
    rw [hq] at hr
    have hcut : QS.cut ⟨abN, 1, 0, 0, fL i⟩ (t : Int) = ⟨abN, 1, 0, t, fL i⟩ := by
      unfold QS.cut QS.from_
      rw [far_t h0 ht hr]
    rw [hq, hcut] at hq' hT
    refine ⟨rfl, B, mb, n, m, D', F', [e'], b, hS, by rw [fQ_pos h0]; simp [hq'], h3, h4, fun x hx => ?_⟩
    rw [List.mem_singleton] at hx
    subst hx
    rw [hq'] at hr2
    have g1 := hr2.start
    have g2 := hr2.fin
    have g3 := hT.stop
    have g4 := hT.or
    have g5 := h5 e (List.mem_cons_self ..)
    simp only [fL_length, Nat.sub_zero] at g1 g2 g3
    unfold fS at g5 ⊢
    omega
/-- The least position. -/
theorem least_none {B : ByteArray → Option ByteArray} {mb n c m : Nat} {D : DiskS} {F : Nat → Prop} (h : CqAt B W g p mb n c m D F [] w) : Calls Tryz.prog 20 #[ptrTo g, .string abN, .int .i64 1] w fun e w' => e = .returned (.int .i64 0) ∧ Calm w w' := by
  have ho := box (of_none (t := abN) (k := 1) h (fun e he => by cases he) (by decide) (by decide))
  clear h
  go_enter Tryz.func20, Tryz.ntmps20
  go_wp2_with fail
  refine ho.out.mono ?_
  rintro e' w1 ⟨x, rfl, hx, hc1⟩
  have c2 := cell_of hx 2
  have hlt := heap_lt hx
  clear hx ho
  go_wp2_with fail
  go_ret
  exact ⟨rfl, hc1⟩
theorem Fi.least (h : Fi W g p i t w) (ht : t ≤ i) : Calls Tryz.prog 20 #[ptrTo g, .string abN, .int .i64 1] w fun e w' => e = .returned (.int .i64 (t : Int)) ∧ Calm w w' := by
  obtain ⟨B, mb, n, m, D, F, es, h1, hS, h2, h3, h4, h5⟩ := h.at_
  rcases Nat.eq_zero_or_pos i with h0 | h0
  · subst h0
    have := none_of h2
    subst this
    have : t = 0 := by omega
    subst this
    exact least_none h1
  · obtain ⟨e, rfl, hq⟩ := one_of h0 h2
    have := least_found (l1 := []) (l2 := []) (t := abN) (k := 1) h1 (by rw [hq]; exact ⟨rfl, rfl⟩) (by decide) (by decide)
    rw [hq] at this
    exact this
theorem Fi.entry (h : Fi W g p i t w) {x : Nat} (h6 : t ≤ x) (h7 : x < i) :
    Calls Tryz.prog 17 #[ptrTo g, .string abN, .int .i64 1, .int .i64 (x : Int)] w fun e w' => e = .returned (.tuple #[.agg #[.int .i64 (x : Int), .int .i64 0, .int .i64 0, .int .i64 0], .int .i64 0]) ∧ Calm w w' := by
  obtain ⟨B, mb, n, m, D, F, es, h1, hS, h2, h3, h4, h5⟩ := h.at_
  obtain ⟨e, rfl, hq⟩ := one_of (by omega) h2
  refine (At_found (l1 := []) (l2 := []) (t := abN) (k := 1) h1 (by rw [hq]; exact ⟨rfl, rfl⟩) (by decide) (by decide) (x : Int)).mono ?_
  rw [hq]
  rintro e w' ⟨⟨_, h8, _⟩ | ⟨h8, _⟩ | ⟨y, hy, h8, _, rfl⟩, hc⟩
  · exfalso
    have h9 : (x : Int) < (t : Int) := h8
    omega
  · exfalso
    rcases h8 with h8 | h8
    · omega
    · have h9 : ((0 + (fL i).length : Nat) : Int) ≤ (x : Int) := h8
      rw [fL_length] at h9
      omega
  · have h9 : (x : Int) = ((0 + y : Nat) : Int) := h8
    have hxy : y = x := by omega
    subst hxy
    refine ⟨?_, hc⟩
    have h3 : (⟨abN, 1, 0, t, fL i⟩ : QS).l[y] = ⟨(y : Int), 0, 0, 0⟩ := fL_get _
    rw [h3]
    rfl
/-- So many files. -/
theorem holds_names {D : DiskS} {R : RowS} {b : List UInt8} (h : Holds D R b) (hF : dk.Form D) (sole : ∀ n, n ∈ D.names R.head → ∃ k, k < 100000000 ∧ n = nameB R.head k) : D.names R.head = R.places.map (nameB R.head) := by
  rw [← h.placesEq hF]
  unfold placesL
  rw [List.map_filterMap]
  have : ∀ l : List ByteArray, (∀ n ∈ l, n ∈ D.names R.head) → l.filterMap (fun n => (placeOf R.head n).map (nameB R.head)) = l := by
    intro l
    induction l with
    | nil => exact fun _ => rfl
    | cons n l ih =>
      intro hl
      obtain ⟨k, hk, rfl⟩ := sole n (hl n (List.mem_cons_self ..))
      rw [List.filterMap_cons, place_name _ hk]
      simp only [Option.map_some]
      rw [ih (fun x hx => hl x (List.mem_cons_of_mem _ hx))]
  exact (this _ (fun n hn => hn)).symm
theorem pre_trans {s : ByteArray} (h : Lib.hasPrefix s.data.toList qabN.data.toList = true) : Lib.hasPrefix s.data.toList qN.data.toList = true := by
  revert h
  show Lib.hasPrefix s.data.toList [113, 45, 97, 45, 98, 46, 49, 45] = true → Lib.hasPrefix s.data.toList [113, 45] = true
  generalize s.data.toList = l
  intro h
  unfold Lib.hasPrefix at h ⊢
  rcases l with _ | ⟨a, _ | ⟨b, l⟩⟩ <;> simp_all [List.isPrefixOf]
def fN (i t : Nat) : Nat := if i = 0 then 0 else (i + 9) / 10 - min (t / 10) ((i + 9) / 10 - 1)
theorem Fi.files (h : Fi W g p i t w) (hi : i ≤ 100) : Calls Tryz.prog 28 #[ptrTo p, .string qabN] w fun e w' => ∃ a cap, e = .returned (.slice a (fN i t) cap) ∧ Calm w w' := by
  obtain ⟨B, mb, n, m, D, F, es, h1, hS, h2, h3, h4, h5⟩ := h.at_
  refine (List_any qabN w h1.disk.lies (fun f hf => Nat.le_trans (h1.able.file f hf) (by unfold maxLen; omega)) (by have := h1.able.files; omega)).mono ?_
  rintro e w' ⟨v, rfl, hs, hc, _⟩
  obtain ⟨a, cap, rfl, _⟩ := hs.uni
  have hlen : (D.names qabN).length = fN i t := by
    rcases Nat.eq_zero_or_pos i with h0 | h0
    · subst h0
      have := none_of h2
      subst this
      have : D.names qabN = [] := List.eq_nil_iff_forall_not_mem.2 (fun s hs => by
        obtain ⟨hs1, hs2⟩ := mem_names.1 hs
        obtain ⟨e, he, _⟩ := h1.sole s hs1 (pre_trans hs2)
        cases he)
      rw [this]; rfl
    · obtain ⟨e, rfl, hq⟩ := one_of h0 h2
      have hr := h1.rows e (List.mem_cons_self ..)
      have hro := hr.rowed
      rw [hq] at hro
      have hh : e.R.head = qabN := hro.head.trans head_ab
      have hn := holds_names hr.lw.holds hr.lw.form (fun s hs => by
        rw [hh] at hs ⊢
        obtain ⟨hs1, hs2⟩ := mem_names.1 hs
        obtain ⟨e2, he, k, hk, rfl⟩ := h1.sole s hs1 (pre_trans hs2)
        rw [List.mem_singleton] at he
        subst he
        exact ⟨k, hk, by rw [hq]; rfl⟩)
      rw [hh] at hn
      rw [hn, List.length_map]
      have hpl : e.R.places.length = e.R.cnt := plc_length _ _ _
      rw [hpl]
      have hok := hr.lw.holds.ok
      have g1 := hok.none
      have g2 := hok.fin
      have g3 := hro.tight
      have g4 := hro.fin
      have g5 := h5 e (List.mem_cons_self ..)
      have g6 := hro.size
      unfold Tight at g3
      unfold RowS.lastp at g2 g3
      unfold RowS.stop at g2
      rw [g6] at g2 g3
      simp only [fL_length] at g4
      unfold fS at g5
      unfold fN
      rw [if_neg (by omega)]
      omega
  rw [hlen]
  exact ⟨a, cap, rfl, hc⟩
/-- Queues made anew over the same disk. -/
structure Fe (W : World) (g p : Nat) (w : World) : Prop where
  at_ : ∃ B mb n m D F, CqAt B W g p mb n 1048576 m D F [] w ∧ m ≤ 3000 ∧ D.files.length = 1
theorem Fe.calm (h : Fe W g p w) (hc : Calm w w') : Fe W g p w' := by
  obtain ⟨B, mb, n, m, D, F, h1, h2⟩ := h.at_
  exact ⟨B, mb, n, m, D, F, h1.cale hc, h2⟩
theorem Fe.owns (h : Fe W g p w) : Calm W w := by
  obtain ⟨B, mb, n, m, D, F, h1, h2⟩ := h.at_
  exact h1.calm
theorem Fi.again (h : Fi W g p i t w) (hi : i ≤ 100) :
    Calls Tryz.prog 13 #[ptrTo p] w fun e w' => ∃ g', e = .returned (.tuple #[ptrTo g', .int .i64 0]) ∧ Fe W g' p w' := by
  obtain ⟨B, mb, n, m, D, F, es, h1, hS, h2, h3, h4, h5⟩ := h.at_
  refine (New_any h1.disk h1.able h1.tab h1.calm h1.fW (by omega) (by omega)).mono ?_
  rintro e w' ⟨g', mb', D', F', rfl, b, hB, _⟩
  refine ⟨g', rfl, _, mb', n, m, D', F', b, by omega, ?_⟩
  have hhas : ∀ s, D'.has s = true ↔ s = otherN := fun s => by
    cases hp : Lib.hasPrefix s.data.toList qN.data.toList with
    | true =>
      rw [hB.gone s hp]
      constructor
      · intro h; cases h
      · rintro rfl; exact absurd hp (by decide)
    | false => rw [bytes_has, hB.stay s hp, h1.out s hp]; exact hS s hp
  have hF : dk.Form D' := b.disk.form
  have hn := hF.names
  have hmem : ∀ s, s ∈ D'.files.map (·.name) ↔ s = otherN := fun s => by
    rw [← hhas, has_file, List.mem_map]
  generalize hl : D'.files.map (·.name) = l at hn hmem
  have : D'.files.length = l.length := by rw [← hl]; simp
  rw [this]
  rcases l with _ | ⟨a, _ | ⟨b2, l⟩⟩
  · exact absurd ((hmem otherN).2 rfl) (by simp)
  · rfl
  · have e1 := (hmem a).1 (by simp)
    have e2 := (hmem b2).1 (by simp)
    rw [e1, e2] at hn
    simp at hn
theorem names_all_len {D : DiskS} : (D.names ⟨#[]⟩).length = D.files.length := by
  unfold DiskS.names DiskS.namesL
  rw [List.length_map, List.filter_eq_self.2 (fun x _ => by unfold Lib.hasPrefix; simp)]
  simp
theorem Fe.names (h : Fe W g p w) : Calls Tryz.prog 28 #[ptrTo p, .string ⟨#[]⟩] w fun e w' => ∃ a cap, e = .returned (.slice a 1 cap) ∧ Calm w w' := by
  obtain ⟨B, mb, n, m, D, F, h1, h2, h3⟩ := h.at_
  refine (List_any ⟨#[]⟩ w h1.disk.lies (fun f hf => Nat.le_trans (h1.able.file f hf) (by unfold maxLen; omega)) (by omega)).mono ?_
  rintro e w' ⟨v, rfl, hs, hc, _⟩
  obtain ⟨a, cap, rfl, _⟩ := hs.uni
  rw [names_all_len, h3]
  exact ⟨a, cap, rfl, hc⟩
theorem Fe.all (h : Fe W g p w) : Calls Tryz.prog 26 #[ptrTo g] w fun e w' => ∃ a cap, e = .returned (.slice a 0 cap) ∧ Calm w w' := by
  obtain ⟨B, mb, n, m, D, F, h1, h2, h3⟩ := h.at_
  refine (All_any h1 (by simp)).mono ?_
  rintro e w' ⟨v, L, rfl, hA, hQ, hc⟩
  have hL : L = [] := by
    have := hA.perm.length_eq
    exact List.eq_nil_of_length_eq_zero this
  subst hL
  obtain ⟨a, cap, rfl, _⟩ := hQ
  exact ⟨a, cap, rfl, hc⟩
end
end Go.Proofs.YtdepejneliacpaaGreatDoor.cfiles
