/-
  DERIVED: THE SHELF's CONTRACTS AT THIS DUMP, IN PLAIN WORDS (tools/lay-plain.mjs out of 'TryIter4.lean', which tools/lay-shelf.mjs wrote): THE SAME DECLARATIONS UNDER THE SAME NAMES: 'import', 'namespace', 'open', 'def', 'theorem' AND NOTHING ELSE: no command of the shelf's: FOR A HAND-IN. Each laying: the table of numbers ('.._ren') and one theorem, a field a fact of the dump's own or the kernel's comparison; each contract: ONE APPLICATION.
-/
import Derived.Test.YtofffmnkoelifaaRows
import Derived.WalkKit
import Derived.ProofKit
import Derived.OpenShut
import Derived.Handy
import Derived.Deep.LoopGhost
import Derived.Lib.Hide
import Derived.Lib.Strings
import Derived.SizedLaws
import Derived.Maps.Own
import Derived.Maps.OwnOps
import Derived.Maps.OwnSet
import Derived.Maps.RangeWalk
import Derived.Deep.Slices
import Derived.Laws.StructEq
import Derived.Deep.RegionHeld3
import Derived.Shelf.Strings.Builder1
import Derived.Shelf.Strings.Builder2
import Derived.Shelf.Small.Bits
import Derived.Shelf.Small.Wraps
import Derived.Shelf.Strings.BuilderF
import Derived.Shelf.Strings.BuilderK
import Derived.Shelf.Strings.Builder2Cap
import Derived.Shelf.Strconv.Itoa0
import Derived.Shelf.Sort.Plain
import Derived.Shelf.GgClosure.StringsIndexFunc
import Derived.Ground.GgwProg
import Derived.Shelf.GgClosure.StringsIndexFuncTop
import Derived.Shelf.GgClosure.StringsRunes
import Derived.Shelf.Strings.Prefix
import Derived.Shelf.Bits.Mul64
import Derived.Shelf.Strings.Repeat
import Derived.Shelf.Strings.BuilderCap
import Derived.Shelf.Slices.Equal
import Derived.Ground.Names2Prog
import Derived.Shelf.Slices.Clone
import Derived.Shelf.Slices.CompactS
import Derived.Shelf.Slices.SearchI
import Derived.Shelf.Slices.Cells
import Derived.Shelf.Slices.In.SortNone
import Derived.Shelf.Slices.Empties2
import Derived.Ground.SlgnProg
import Derived.Shelf.SlicesE.Equal
import Derived.Shelf.SlicesE.Compact
import Derived.Ground.SlgfProg
import Derived.Shelf.SlicesE.IndexFunc
import Derived.Shelf.SlicesE.DeleteFunc
import Derived.Test.YtofffmnkoelifaaProg
import Derived.Sort.Statements
import Derived.Lib.ConvBytes
import Derived.Lib.AppendZeros
import Derived.Lib.AppendZerosOnto
import Derived.Lib.LazyBuf
import Derived.Lib.SliceRun
import Derived.Shelf.SlIterI.Collect
import Derived.Shelf.SlIterI.Nil
import Derived.Ground.GgzProg
import Derived.Shelf.SlSortCmp.Whole1
import Derived.Ground.SlsfProg
import Derived.Shelf.SlSortCmp.NoneTotal
import Derived.Test.YtofffmnkoelifaaPk12
namespace Go.Proofs
open Go.Shelf
def Try.gSortFnNone_ren : Go.Shelf.Ren := ⟨fun | 6 => 35 | 15 => 66 | 14 => 65 | 28 => 95 | 29 => 96 | 20 => 87 | 21 => 88 | 22 => 89 | 23 => 90 | 24 => 91 | 25 => 92 | 26 => 93 | 27 => 94 | 46 => 117 | 47 => 118 | 48 => 119 | 49 => 120 | 50 => 121 | 57 => 133 | n => n, fun | 22 => 34 | 24 => 3 | 25 => 78 | 3 => 3 | 39 => 58 | 0 => 0 | 53 => 48 | 55 => 132 | 4 => 4 | 46 => 124 | 45 => 123 | 50 => 128 | 5 => 5 | 9 => 9 | 66 => 147 | 70 => 151 | 76 => 165 | 77 => 166 | n => n, fun | n => n⟩
theorem Try.gSortFnNone : Go.Proofs.SlLaysF0.n6 Try.prog Try.gSortFnNone_ren := {
  mixed := by kernel_rfl
  f6 := ⟨Try.f35.name, by decide, Try.func35.trans (congrArg some (by kernel_rfl))⟩
  f14 := ⟨Try.f65.name, by decide, Try.func65.trans (congrArg some (by kernel_rfl))⟩
  f15 := Try.func66.trans (congrArg some (by kernel_rfl))
  f20 := ⟨Try.f87.name, by decide, Try.func87.trans (congrArg some (by kernel_rfl))⟩
  f21 := ⟨Try.f88.name, by decide, Try.func88.trans (congrArg some (by kernel_rfl))⟩
  f22 := ⟨Try.f89.name, by decide, Try.func89.trans (congrArg some (by kernel_rfl))⟩
  f23 := ⟨Try.f90.name, by decide, Try.func90.trans (congrArg some (by kernel_rfl))⟩
  f24 := ⟨Try.f91.name, by decide, Try.func91.trans (congrArg some (by kernel_rfl))⟩
  f25 := ⟨Try.f92.name, by decide, Try.func92.trans (congrArg some (by kernel_rfl))⟩
  f26 := ⟨Try.f93.name, by decide, Try.func93.trans (congrArg some (by kernel_rfl))⟩
  f27 := ⟨Try.f94.name, by decide, Try.func94.trans (congrArg some (by kernel_rfl))⟩
  f28 := Try.func95.trans (congrArg some (by kernel_rfl))
  f29 := Try.func96.trans (congrArg some (by kernel_rfl))
  f46 := ⟨Try.f117.name, by decide, Try.func117.trans (congrArg some (by kernel_rfl))⟩
  f47 := Try.func118.trans (congrArg some (by kernel_rfl))
  f48 := Try.func119.trans (congrArg some (by kernel_rfl))
  f49 := ⟨Try.f120.name, by decide, Try.func120.trans (congrArg some (by kernel_rfl))⟩
  f50 := ⟨Try.f121.name, by decide, Try.func121.trans (congrArg some (by kernel_rfl))⟩
  f57 := ⟨Try.f133.name, by decide, Try.func133.trans (congrArg some (by kernel_rfl))⟩
  t0 := Try.underlying0
  a0 := Try.isAgg0
  z0 := Try.sizeOf0
  v0 := Try.zeroValue0
  t3 := Try.underlying3
  a3 := Try.isAgg3
  z3 := Try.sizeOf3
  v3 := Try.zeroValue3
  t4 := Try.underlying4
  a4 := Try.isAgg4
  z4 := Try.sizeOf4
  v4 := Try.zeroValue4
  t5 := Try.underlying5
  a5 := Try.isAgg5
  z5 := Try.sizeOf5
  v5 := Try.zeroValue5
  t9 := Try.underlying9
  a9 := Try.isAgg9
  z9 := Try.sizeOf9
  v9 := Try.zeroValue9
  t22 := Try.underlying34
  a22 := Try.isAgg34
  z22 := Try.sizeOf34
  v22 := Try.zeroValue34
  t25 := Try.underlying78
  a25 := Try.isAgg78
  z25 := Try.sizeOf78
  v25 := Try.zeroValue78
  t39 := Try.underlying58
  a39 := Try.isAgg58
  z39 := Try.sizeOf58
  v39 := Try.zeroValue58
  t45 := Try.underlying123
  a45 := Try.isAgg123
  z45 := Try.sizeOf123
  v45 := Try.zeroValue123
  t46 := Try.underlying124
  a46 := Try.isAgg124
  z46 := Try.sizeOf124
  v46 := Try.zeroValue124
  t50 := Try.underlying128
  a50 := Try.isAgg128
  z50 := Try.sizeOf128
  v50 := Try.zeroValue128
  t53 := Try.underlying48
  a53 := Try.isAgg48
  z53 := Try.sizeOf48
  v53 := Try.zeroValue48
  t55 := Try.underlying132
  a55 := Try.isAgg132
  z55 := Try.sizeOf132
  v55 := Try.zeroValue132
  t66 := Try.underlying147
  a66 := Try.isAgg147
  z66 := Try.sizeOf147
  v66 := Try.zeroValue147
  t70 := Try.underlying151
  a70 := Try.isAgg151
  z70 := Try.sizeOf151
  v70 := Try.zeroValue151
  t76 := Try.underlying165
  a76 := Try.isAgg165
  z76 := Try.sizeOf165
  v76 := Try.zeroValue165
  t77 := Try.underlying166
  a77 := Try.isAgg166
  z77 := Try.sizeOf166
  v77 := Try.zeroValue166 }
end Go.Proofs

/- Layer 17: all that is pending. -/
namespace Go.Proofs.Ytofffmnkoelifaa.pd
open Go.ChangeShapes Go.WideShapes Go.ChangeAt Go.RowKit Go.Sort Go.Shelf Go.MapKept Go.ChangeMaps Go.Lib
open Go.Proofs.Ytofffmnkoelifaa.rc

theorem swoS (S : List OneS) : SWO (ltOf (cmpS S)) where
  irrefl x := by unfold ltOf; rw [decide_eq_false_iff_not, cmpS_lt]; omega
  trans x y z h1 h2 := by
    unfold ltOf at *
    rw [decide_eq_true_iff, cmpS_lt] at *
    omega
  ntrans x y z h1 h2 := by
    unfold ltOf at *
    rw [decide_eq_false_iff_not, cmpS_lt] at *
    omega
theorem sortWorld_block {w : World} {g off m : Nat} {dk : Array Int} {os : Array Obj} {b : Nat} (hb : b < w.heap.size) (hn : b ≠ g) : (sortWorld encZ w g off m dk os).heap[b]? = w.heap[b]? := by
  unfold sortWorld
  rw [Go.Sort.heap_grow_old _ _ (by rw [size_putRow]; exact hb)]
  unfold putRow mapBlock
  simp [Array.getElem?_modify, Ne.symm hn]
theorem size_sortWorld {w : World} {g off m : Nat} {dk : Array Int} {os : Array Obj} : w.heap.size ≤ (sortWorld encZ w g off m dk os).heap.size := by
  unfold sortWorld
  simp
theorem calm_sortWorld {a w : World} (h : Calm a w) {g off m : Nat} {dk : Array Int} {os : Array Obj} (hg : a.heap.size ≤ g) : Calm a (sortWorld encZ w g off m dk os) :=
  ⟨h.os, h.tape, h.output, Nat.le_trans h.size size_sortWorld, fun b hb => (sortWorld_block (Nat.lt_of_lt_of_le hb h.size) (by omega)).trans (h.block b hb)⟩
theorem cmp_lays (p mb B g size : Nat) (S : List OneS) (w : World) (h : SetIn w p mb S) (hB : w.cell? ⟨B, 0, none⟩ = some (.pointer (some ⟨p, 0, none⟩))) (h1 : p ≠ g) (h2 : mb ≠ g) (h3 : B ≠ g) :
    CmpLays1 Try.prog 36 #[.pointer (some ⟨B, 0, none⟩)] encZ (cmpS S) g 0 size w := fun m os dk _ x y => by
  refine (less_any p mb B S x y _ (h.same (sortWorld_block (heap_lt h.blk) h1) (sortWorld_block h.map.lt h2)) ((World.cell?_of_block (w := w) (a := ⟨B, 0, none⟩) (sortWorld_block (World.block_lt_of_cell? w ⟨B, 0, none⟩ hB) h3)).trans hB)).mono ?_
  rintro e w' ⟨rfl, rfl⟩
  exact ⟨rfl, 1, #[.cells #[.int .i64 (Lib.compareInt (dueS S x) (dueS S y)), .int .i64 (Lib.compareInt x y)] 3], by simp [grow, World.alloc, World.drew, World.drewN, -World.alloc_eq, -World.drew_eq]⟩
/-- A row of numbers as a value. -/
def ZsAt (w : World) (v : Value) (K : List Int) : Prop := ∃ a cap, v = .slice a K.length cap ∧ ∀ k (hk : k < K.length), ∃ g, a = some ⟨g, 0, none⟩ ∧ g < w.heap.size ∧ w.cell? ⟨g, k, none⟩ = some (.int .i64 K[k])
/-- Those that are pending, in order. -/
structure PendIs (S : List OneS) (K : List Int) : Prop where
  perm : K.Perm ((S.filter (fun x => x.st == 1)).map (·.id))
  order : ∀ i j (hij : i < j) (hj : j < K.length), ¬ cmpS S K[j] K[i] < 0
theorem state_of {S : List OneS} (hn : (S.map (·.id)).Nodup) {x : OneS} (hx : x ∈ S) : stateS S x.id = x.st := by
  unfold stateS
  rcases get_cases S x.id with ⟨S1, y, S2, e1, e2, e3⟩ | ⟨h1, _⟩
  · rw [e3, nodup_inj hn (by rw [e1]; simp) hx e2]
  · exact absurd rfl (h1 x hx)
theorem keep_ids {S : List OneS} (hn : (S.map (·.id)).Nodup) : keepI S (S.map (·.id)) = (S.filter (fun x => x.st == 1)).map (·.id) := by
  unfold keepI
  rw [List.filter_map]
  congr 1
  refine List.filter_congr (fun x hx => ?_)
  simp only [Function.comp, isOver, state_of hn hx]
  cases h : (x.st == 1) <;> simp_all [bne]
theorem IndexNil_any (fv : Value) (w : World) : Calls Try.prog 64 #[.slice none 0 0, fv] w fun e w' => e = .returned (.int .i64 (-1)) ∧ w = w' := by
  go_enter Try.func64, Try.ntmps64
  go_wp2
  go_rounds 1
  go_wp2
  go_ret
  exact ⟨rfl, rfl⟩
theorem DeleteNil_any (fv : Value) (w : World) : Calls Try.prog 33 #[.slice none 0 0, fv] w fun e w' => e = .returned (.slice none 0 0) ∧ w = w' := by
  have hi := box (IndexNil_any fv w)
  go_enter Try.func33, Try.ntmps33
  go_wp2_with fail
  refine hi.out.mono ?_
  rintro e w2 ⟨rfl, rfl⟩
  go_wp2_with fail
  go_ret
  exact ⟨rfl, rfl⟩
def PendDone (S : List OneS) (w : World) (e : Ending) (w' : World) : Prop := ∃ v K, e = .returned v ∧ PendIs S K ∧ ZsAt w' v K ∧ Calm w w'
set_option maxRecDepth 100000 in
set_option maxHeartbeats 4000000 in
theorem Pending_any (p mb : Nat) (S : List OneS) (w : World) (h : SetIn w p mb S) (hl : S.length ≤ 1000000) :
    Calls Try.prog 12 #[.pointer (some ⟨p, 0, none⟩)] w (PendDone S w) := by
  obtain ⟨W1, hW1⟩ : ∃ W1, w.alloc (.cells #[.pointer (some ⟨p, 0, none⟩)] 24) = W1 := ⟨_, rfl⟩
  have J0 := box (show W1.heap[w.heap.size]? = some (.cells #[.pointer (some ⟨p, 0, none⟩)] 24 (0, 0)) by rw [← hW1]; exact heap_new w _)
  have hc : Calm w W1 := by rw [← hW1]; exact (Calm.refl w).alloc _
  have h1 := h.calm hc
  have hpl := heap_lt h.blk
  have hml := h.map.lt
  have H1 := box h1
  have C1 := box hc
  have hn := box h.nodup
  have c0 := cell_of h1.blk 0
  have hlt := heap_lt h1.blk
  have b0 := cell_of J0.out 0
  have hlb := heap_lt J0.out
  have hk0 := box (collect_any mb W1 h1.map (fun x hx => by
    obtain ⟨y, hy, rfl⟩ := List.mem_map.1 hx
    have := h.ids y hy
    unfold Lit.wf
    simp [keyZ, encO, IntKind.min, IntKind.max, IntKind.bits, IntKind.signed]
    omega) (by rw [List.length_map]; exact hl))
  have hids : ((S.map encO).map fun x => keyZ x.1) = S.map (·.id) := by rw [List.map_map]; rfl
  rw [hids] at hk0
  have hen := enters_of Try.func36 (by kernel_rfl) rfl
  have Hl := box hl
  clear h h1 hc hids hl
  go_enter Try.func12, Try.ntmps12
  go_wp2_with fail
  refine (keys_any _ _).mono ?_
  rintro e w2 ⟨rfl, rfl⟩
  go_wp2_with fail
  refine hk0.out.mono ?_
  rintro e w3 ⟨v, ss, rfl, hperm, hrow, hnil, hc3⟩
  have H3 := box (H1.out.calm hc3)
  have J3 := box (heap_calm hc3 J0.out)
  have C3 := box (C1.out.trans hc3)
  have hle3 := hc3.size
  have hssl := box (show ss.length ≤ 1000000 by rw [hperm.length_eq, List.length_map]; exact Hl.out)
  have hkp := box (show (keepI S ss).Perm ((S.filter (fun x => x.st == 1)).map (·.id)) from by rw [← keep_ids hn.out]; exact hperm.filter _)
  clear c0 hlt b0 hlb hperm hc3
  have b0 := cell_of J3.out 0
  have hlb := heap_lt J3.out
  by_cases hss : ss = []
  · obtain rfl := hnil.2 hss
    subst hss
    have hdel := box (fun w => DeleteNil_any (overV p) w)
    have hsrt := box (fun fv w => (show Calls Try.prog 35 #[.slice none 0 0, fv] w fun e w' => e = .returned (.tuple #[]) ∧ w' = w from AnyF.slices_SortFunc_none Try.gSortFnNone none 0 fv w))
    clear hrow hnil hen
    go_wp2_with fail
    refine (hdel.out _).mono ?_
    rintro e w4 ⟨rfl, rfl⟩
    go_wp2_with fail
    refine (hsrt.out _ _).mono ?_
    rintro e w5 ⟨rfl, rfl⟩
    go_wp2_with fail
    go_ret
    exact ⟨_, [], rfl, ⟨hkp.out, fun i j _ hj => absurd hj (Nat.not_lt_zero _)⟩, ⟨none, 0, rfl, fun k hk => absurd hk (Nat.not_lt_zero _)⟩, C3.out⟩
  · have hpos : 0 < ss.length := List.length_pos_iff.2 hss
    rcases hrow.2 with ⟨rfl, hn0⟩ | ⟨g, cap, cur, rfl, hgb, hg, hgc, _, hgs, htake⟩
    · omega
    · have hw1 : W1.heap.size = w.heap.size + 1 := by rw [← hW1]; exact World.size_alloc _ _
      have hrz : RowZ w3 g cap ss := ⟨cur, hg, by omega, hgc, fun i hi => by
        have h5 := congrArg (fun l => l[i]?) htake
        simp only [List.getElem?_map] at h5
        rw [List.getElem?_take_of_lt (by omega), Array.getElem?_toList, List.getElem?_eq_getElem hi] at h5
        exact h5⟩
      have hgp : g ≠ p := by omega
      have hgm : g ≠ mb := by omega
      have hgw : g ≠ w.heap.size := by omega
      have hdel := box (DeleteOver_any p mb g cap S ss w3 H3.out hrz hssl.out hgp hgm)
      have Hen := box hen
      have HJ := box (And.intro hpl hml)
      clear hrow hnil hen hrz hg htake hpl hml
      go_wp2_with fail
      refine hdel.out.mono ?_
      rintro e w4 ⟨rfl, hrk, hkeep⟩
      have H4 := box (H3.out.same (hkeep.block p (heap_lt H3.out.blk) (fun e => hgp e.symm)) (hkeep.block mb H3.out.map.lt (fun e => hgm e.symm)))
      have J4 := box ((hkeep.block w.heap.size (heap_lt J3.out) (fun e => hgw e.symm)).trans J3.out)
      have C4 := box (show Calm w w4 from Below.trans C3.out (hkeep.below (B := w.heap.size) C3.out.size (fun b e => by omega)))
      have hkl : (keepI S ss).length ≤ 1000000 := Nat.le_trans (List.length_filter_le _ _) hssl.out
      clear hkeep b0 hlb hdel
      obtain ⟨K, hK⟩ : ∃ K, keepI S ss = K := ⟨_, rfl⟩
      rw [hK] at hrk hkl hkp ⊢
      clear hK
      have hH : Holds encZ w4 g 0 K.toArray := fun j hj => by
        simp only [List.size_toArray] at hj
        obtain ⟨c, k1, k2, k3, k4⟩ := hrk
        rw [Nat.zero_add, cell_of k1, k4 j hj]
        exact ⟨by simp [hj], free_of k1 j⟩
      have hcon := Any.slices_SortFunc Try.gSortFn encZ (fun _ => rfl) (cmpS S) (swoS S) 36 #[.pointer (some ⟨w.heap.size, 0, none⟩)] g 0 cap K.toArray w4 Hen.out
        (cmp_lays p mb w.heap.size g _ S w4 H4.out (cell_of J4.out 0) (fun e => hgp e.symm) (fun e => hgm e.symm) (fun e => hgw e.symm)) hH hrk.lt (by simp; omega)
      change Calls Try.prog 35 _ _ _ at hcon
      simp only [List.size_toArray] at hcon
      have Hcon := box hcon
      have HH := box hH
      have hglt := hrk.lt
      have b0 := cell_of J4.out 0
      have hlb := heap_lt J4.out
      clear hcon hH hrk
      go_wp2_with fail
      refine Hcon.out.mono ?_
      rintro e w5 ⟨rfl, d', n, os, hp, hs, rfl⟩
      have P1 := box hp
      have P2 := box hs
      clear hp hs
      go_wp2_with fail
      go_ret
      obtain ⟨q1, _, q3⟩ := P1.out
      have hdl : d'.toList.length = K.length := by rw [Array.length_toList, q1, List.size_toArray]
      have hex : ∀ (a : Array Int), a.extract 0 a.size = a := fun a => by simp
      have hperm : d'.toList.Perm K := by
        have h2 := q3
        rw [show K.length = d'.size by rw [q1, List.size_toArray]] at h2
        rw [hex d', show d'.size = K.toArray.size from q1, hex K.toArray] at h2
        exact h2
      refine ⟨_, d'.toList, rfl, ⟨hperm.trans hkp.out, fun i j hij hj => ?_⟩, ⟨_, cap, by rw [hdl]; rfl, fun k hk => ⟨g, rfl, Nat.lt_of_lt_of_le hglt size_sortWorld, ?_⟩⟩, calm_sortWorld C4.out (by omega)⟩
      · have h3 := P2.out i j (Nat.zero_le _) hij (by omega)
        unfold ltOf at h3
        rw [decide_eq_false_iff_not] at h3
        have hi : i < d'.size := by rw [Array.length_toList] at hj; omega
        have hj' : j < d'.size := by rwa [Array.length_toList] at hj
        rw [getElem!_pos d' i hi, getElem!_pos d' j hj'] at h3
        exact h3
      · have hk' : k < d'.size := by rwa [Array.length_toList] at hk
        have hHa : Holds encZ (Sort.ahead w4 n) g 0 K.toArray := HH.out
        unfold sortWorld
        have hz := cell?_putRow encZ _ g 0 K.toArray d' hHa q1 k hk'
        rw [Nat.zero_add, getElem!_pos d' k hk'] at hz
        rw [cell?_grow _ _ _ (by rw [size_putRow]; exact hglt)]
        exact hz
end Go.Proofs.Ytofffmnkoelifaa.pd
