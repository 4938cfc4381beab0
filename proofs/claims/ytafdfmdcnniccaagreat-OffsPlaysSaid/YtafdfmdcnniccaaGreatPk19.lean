/- Layer 14: Insert at offsets: what is copied. -/
import Derived.Test.YtafdfmdcnniccaaGreatRows
import Derived.WalkKit
import Derived.ProofKit
import Derived.OpenShut
import Derived.Handy
import Derived.Deep.LoopGhost
import Derived.Lib.Hide
import Derived.Lib.Strings
import Derived.SizedLaws
import Derived.Maps.Own
import Derived.Maps.OwnOps
import Derived.Maps.OwnSet
import Derived.Maps.RangeWalk
import Derived.Deep.QuietTactic
import Derived.BigQuiet
import Derived.Deep.RegionHeld3
import Derived.Lib.ConvBytes
import Derived.Lib.AppendZeros
import Derived.Lib.AppendZerosOnto
import Derived.Lib.LazyBuf
import Derived.Shelf.Abstract
import Derived.LaidEql
import Derived.Lib.SliceRun
import Derived.StillTailTactics
import Derived.Deep.Slices
import Derived.Outline
import Derived.Laws.Cover1
import Derived.Deep.RegionLaw
import Derived.Deep.DeepCutAuto
import Derived.Deep.CutBlock
import Derived.Shelf.SlicesE.Clone
import Derived.Ground.SlgnProg
import Derived.Test.YtafdfmdcnniccaaGreatProg
import Derived.Shelf.Strings.Builder1
import Derived.Shelf.Small.Bits
import Derived.Shelf.Small.Wraps
import Derived.Shelf.Strings.BuilderF
import Derived.Shelf.Strings.BuilderK
import Derived.Shelf.Strconv.Itoa0
import Derived.Shelf.Sort.Plain
import Derived.Shelf.GgClosure.StringsIndexFunc
import Derived.Ground.GgwProg
import Derived.Shelf.GgClosure.StringsIndexFuncTop
import Derived.Shelf.GgClosure.StringsRunes
import Derived.Shelf.Strings.Prefix
import Derived.Shelf.Strings.BuilderCap
import Derived.Ground.Names2Prog
import Derived.Shelf.Slices.SearchI
import Derived.Shelf.Slices.In.SortNone
import Derived.Ground.SlgfProg
import Derived.Shelf.SlicesE.IndexFunc
import Derived.Shelf.SlicesE.DeleteFunc
import Derived.Lib.DecodeN
import Derived.Lib.Overlaps
import Derived.Laws.CopyOwn
import Derived.Test.YtafdfmdcnniccaaGreatPk18
namespace Go.Proofs.YtafdfmdcnniccaaGreat.ofs
open Go.ChangeShapes Go.WideShapes Go.ChangeAt Go.RowKit
open Go.Proofs.YtafdfmdcnniccaaGreat.dk Go.Proofs.YtafdfmdcnniccaaGreat.nm

section
variable {P : Program}
/-- 'copy' onto a row that is known whole, of elements of several cells. -/
theorem copy_k (w : World) (dT sT ty elem : TypeId) (size g o dLen dCap : Nat) (a : Addr) (sLen sCap m : Nat) (cur : Array Value) (T : TypeId) (cs : List Value)
    (hu : P.underlying dT = some (.slice elem)) (hs : (P.info? elem).map (·.size) = some size) (hg : w.heap[g]? = some (.cells cur T (0, 0))) (hm : Nat.min sLen dLen = m) (hn : cs.length = m * size)
    (hsrc : ∀ j v, cs[j]? = some v → w.cell? (a.add j) = some v) (hfit : o + cs.length ≤ cur.size) (h1 : ∀ v ∈ cs, v.oneCell' = true) :
    (Builtin.copy_ #[dT, sT] ty #[.slice (some ⟨g, o, none⟩) dLen dCap, .slice (some a) sLen sCap]).run P w = .ok (goInt m) (w.setRow g (cur.toList.take o ++ cs ++ cur.toList.drop (o + cs.length)).toArray) := by
  have hl := run_loadCells_list (P := P) w a cs hsrc
  have hst := run_storeCells_at P g o T cs 0 cur w hg (by simpa using hfit) h1
  cases hq : P.info? elem with
  | none => simp [hq] at hs
  | some i =>
    have hi : i.size = size := by simpa [hq] using hs
    rw [hn] at hl
    simp [Builtin.copy_, run_underlying hu, Builtin.lenOf, Builtin.firstCells, sizeOf, typeInfo, hq, hi, hm, hl, hst]
/-- 'copy' in the walk, its run known; a step of a region that draws. -/
theorem copy_here (w : World) {ops : Array Oper} {rest : List Oper} {o : Oper} {a : Act} {Q : Exit → Act → World → Prop} (hgd : o.guard = none) (d s : Operand) (t t' : TypeId)
    (ho : o.op = .call { callee := .builtin .copy, args := #[d, s], argTypes := #[t, t'] }) (v u : Value) (hd : a.eval d = v) (hs : a.eval s = u) {v' : Value} {w' : World}
    (hr : (Builtin.copy_ #[t, t'] o.type #[v, u]).run P w = .ok v' w') (h : wpList P ops Q rest (a.put o.dst v') w') : wpList P ops Q (o :: rest) a w := by
  refine wpList_plain hgd fun K hK => ?_
  unfold Oper.wp
  simp [execOp, ho, resolve, invoke, builtin, hd, hs, hr, Result.andThen]
  exact hK _ _ h
theorem copy_step {ops : Array Oper} {o : Oper} {a : Act} {w : World} {K : Act → World → Prop} {Q : Exit → Act → World → Prop} {E : Prop}
    (hg : o.guard = none) (d x : Operand) (dT sT : TypeId) (hop : o.op = Op.call { callee := Callee.builtin Builtin.copy, args := #[d, x], argTypes := #[dT, sT] })
    (v u : Value) (hd : a.eval d = v) (hx : a.eval x = u) {v' : Value} {w' : World} (hr : (Builtin.copy_ #[dT, sT] o.type #[v, u]).run P w = .ok v' w') (hK : K (a.put o.dst v') w') :
    if Region.wanted o (yielded ops a.tmps) = true then Oper.wp P o a w K Q else E := by
  have hw : Region.wanted o (yielded ops a.tmps) = true := by simp [Region.wanted, hg]
  rw [if_pos hw]
  unfold Oper.wp
  simp [execOp, hop, resolve, invoke, builtin, hd, hx, hr, Result.andThen]
  exact hK
end
theorem keeps_setRow {F : Nat → Prop} {a w : World} (h : Keeps F a w) {g : Nat} (hg : F g ∨ a.heap.size ≤ g) (cs : Array Value) : Keeps F a (w.setRow g cs) :=
  ⟨h.os, h.tape, h.output, by rw [setRow_size]; exact h.size, fun k hk hn => by
    rw [setRow_other w g k cs (fun e => by subst e; rcases hg with hg | hg; exact hn hg; omega)]
    exact h.block k hk hn⟩
section
variable {α : Type}
/-- What lies in the row when what stands behind a place was moved on, and then the new cells laid there. -/
theorem ins_place (F R e : List α) (p k : Nat) (hp : p ≤ F.length) (he : e.length = k) (hk : k ≤ R.length) :
    (((F ++ R).take (p + k) ++ F.drop p ++ (F ++ R).drop (p + k + (F.length - p))).take p ++ e ++ ((F ++ R).take (p + k) ++ F.drop p ++ (F ++ R).drop (p + k + (F.length - p))).drop (p + k)) = F.take p ++ e ++ F.drop p ++ R.drop k := by
  have h1 : ((F ++ R).take (p + k)).length = p + k := by rw [List.length_take, List.length_append]; omega
  have h2 : ((F ++ R).take (p + k) ++ F.drop p ++ (F ++ R).drop (p + k + (F.length - p))).take p = F.take p := by
    rw [List.append_assoc, List.take_append_of_le_length (by omega), List.take_take, Nat.min_eq_left (by omega), List.take_append_of_le_length (by omega)]
  have h4 : (F ++ R).drop (p + k + (F.length - p)) = R.drop k := by
    have h5 : F.drop (p + k + (F.length - p)) = [] := List.drop_eq_nil_of_le (by omega)
    rw [List.drop_append, h5, List.nil_append, show p + k + (F.length - p) - F.length = k by omega]
  have h3 : ((F ++ R).take (p + k) ++ F.drop p ++ (F ++ R).drop (p + k + (F.length - p))).drop (p + k) = F.drop p ++ R.drop k := by
    have h6 : ((F ++ R).take (p + k)).drop (p + k) = [] := List.drop_eq_nil_of_le (by omega)
    rw [List.append_assoc, List.drop_append_of_le_length (by omega), h6, List.nil_append, h4]
  rw [h2, h3]
  simp [List.append_assoc]
/-- .. and in a new row. -/
theorem ins_new (F Z e : List α) (p k : Nat) (hp : p ≤ F.length) (he : e.length = k) (hz : k + (F.length - p) ≤ Z.length) :
    ((((F.take p ++ Z).take p ++ e ++ (F.take p ++ Z).drop (p + k)).take (p + k) ++ F.drop p) ++ ((F.take p ++ Z).take p ++ e ++ (F.take p ++ Z).drop (p + k)).drop (p + k + (F.length - p))) = F.take p ++ e ++ F.drop p ++ Z.drop (k + (F.length - p)) := by
  have h0 : (F.take p).length = p := by rw [List.length_take]; omega
  have h1 : (F.take p ++ Z).take p = F.take p := by rw [List.take_append_of_le_length (by omega), List.take_take, Nat.min_self]
  have h2 : (F.take p ++ Z).drop (p + k) = Z.drop k := by rw [List.drop_append, List.drop_eq_nil_of_le (by omega), List.nil_append, h0, show p + k - p = k by omega]
  have h3 : (F.take p ++ e).length = p + k := by rw [List.length_append]; omega
  have h4 : (F.take p ++ e).drop (p + k + (F.length - p)) = [] := List.drop_eq_nil_of_le (by omega)
  rw [h1, h2, List.take_append_of_le_length (by omega), List.take_of_length_le (by omega), List.drop_append, h4, List.nil_append, h3, show p + k + (F.length - p) - (p + k) = F.length - p by omega, List.drop_drop]
end
theorem encO_take : ∀ (l : List OffS) (i : Nat), (l.take i).flatMap encO = (l.flatMap encO).take (i * 4)
  | [], i => by simp
  | x :: l, 0 => by simp
  | x :: l, i + 1 => by
    rw [List.take_succ_cons, List.flatMap_cons, List.flatMap_cons, encO_take l i, show (i + 1) * 4 = (encO x).length + i * 4 by rw [encO_length]; omega, List.take_length_add_append]
theorem encO_drop : ∀ (l : List OffS) (i : Nat), (l.drop i).flatMap encO = (l.flatMap encO).drop (i * 4)
  | [], i => by simp
  | x :: l, 0 => by simp
  | x :: l, i + 1 => by
    rw [List.drop_succ_cons, List.flatMap_cons, encO_drop l i, show (i + 1) * 4 = (encO x).length + i * 4 by rw [encO_length]; omega, List.drop_length_add_append]
theorem encO_one (l : List OffS) : ∀ u ∈ l.flatMap encO, u.oneCell' = true := fun u hu => by
  obtain ⟨x, _, hx⟩ := List.mem_flatMap.1 hu
  simp only [encO, List.mem_cons, List.not_mem_nil, or_false] at hx
  rcases hx with rfl | rfl | rfl | rfl <;> rfl
theorem encO_ins (l : List OffS) (i : Nat) (x : OffS) : (l.take i ++ x :: l.drop i).flatMap encO = (l.flatMap encO).take (i * 4) ++ encO x ++ (l.flatMap encO).drop (i * 4) := by
  rw [List.flatMap_append, List.flatMap_cons, encO_take, encO_drop, List.append_assoc]
end Go.Proofs.YtafdfmdcnniccaaGreat.ofs

/- Layer 14: Insert at offsets. -/
namespace Go.Proofs.YtafdfmdcnniccaaGreat.ofs
open Go.ChangeShapes Go.WideShapes Go.ChangeAt Go.RowKit
open Go.Proofs.YtafdfmdcnniccaaGreat.dk Go.Proofs.YtafdfmdcnniccaaGreat.nm

theorem append_off (B : Nat) (w : World) (v : Value) (L : List OffS) (x : OffS) (g0 : Nat) (h : offRow B w v L) (hb : w.heap[g0]? = some (.cells (offA x) 31 (0, 0))) (hB : B ≤ w.heap.size) (hl : L.length ≤ 1000000) (ty : TypeId) :
    ∃ v' w', (Builtin.append_ #[22, 22] ty #[v, .slice (some ⟨g0, 0, none⟩) 1 1]).run Tryz.prog w = .ok v' w' ∧ offRow B w' v' (L ++ [x]) ∧
      Keeps (fun g => v.ownBlock = some g) w w' ∧ ∀ g, v'.ownBlock = some g → v.ownBlock = some g ∨ w.heap.size ≤ g := by
  obtain ⟨i0, hi, hz0, hz1, hz2⟩ := info_parts infoOff
  obtain ⟨v', w', h1, h2, h3, h4⟩ := append_own (P := Tryz.prog) w 22 ty 31 i0 _ 4 48 Tryz.underlying22 hi hz0 hz1 hz2 (by kernel_rfl) (by decide) v L.length _ (row_zero h) ⟨g0, 0, none⟩ 1 1 (by decide) (encO x) rfl (fun j u hj => by
      rw [add_lit, cell_of hb]
      match j, hj with
      | 0, hj => exact hj
      | 1, hj => exact hj
      | 2, hj => exact hj
      | 3, hj => exact hj
      | k + 4, hj => simp [encO] at hj) (fun u hu => by
      simp only [encO, List.mem_cons, List.not_mem_nil, or_false] at hu
      rcases hu with rfl | rfl | rfl | rfl <;> rfl) (by simp only [maxLen]; omega) (by omega)
  have hg : ∀ g, v'.ownBlock = some g → v.ownBlock = some g ∨ w.heap.size ≤ g := fun g hg => by
    rcases h4 with h4 | h4
    · exact .inl (h4.symm.trans hg)
    · rw [h4] at hg
      cases hg
      exact .inr (Nat.le_refl _)
  refine ⟨v', w', h1, ?_, h3.mono (fun b _ h => h), hg⟩
  show w'.ownsRow B _ 4 v' (L ++ [x]).length ((L ++ [x]).flatMap encO)
  refine row_base ?_ (fun g e => ?_)
  rotate_left
  · rcases h4 with h4 | h4
    · exact (h.lt g (h4.symm.trans e)).1
    · rw [h4] at e; cases e; exact hB
  rw [List.flatMap_append, List.length_append]
  simpa using h2
def InsDone (B : Nat) (v : Value) (l : List OffS) (w : World) (e : Ending) (w' : World) : Prop :=
  ∃ v', e = .returned v' ∧ offRow B w' v' l ∧ Keeps (fun g => v.ownBlock = some g) w w' ∧ ∀ g, v'.ownBlock = some g → v.ownBlock = some g ∨ w.heap.size ≤ g
set_option maxRecDepth 100000 in
set_option maxHeartbeats 4000000 in
/-- At the end. -/
theorem Insert_end (B : Nat) (v : Value) (l : List OffS) (x : OffS) (g0 : Nat) (w : World) (h : offRow B w v l) (hl : l.length ≤ 1000000) (hb : w.heap[g0]? = some (.cells (offA x) 31 (0, 0))) (hB : B ≤ w.heap.size) :
    Calls Tryz.prog 26 #[v, .int .i64 (l.length : Nat), .slice (some ⟨g0, 0, none⟩) 1 1] w (InsDone B v (l ++ [x]) w) := by
  have happ := box (append_off B w v l x g0 h hb hB hl)
  obtain ⟨v', w', h1, h2, h3, h4⟩ := happ.out 22
  have H2 := box h2
  have H3 := box h3
  have H4 := box h4
  have H1 := box h1
  clear h1 h2 h3 h4 happ
  rcases h.2 with ⟨rfl, hn⟩ | ⟨g, cap, cur, rfl, _, _, hnc, hcm, _⟩
  · clear h hb
    obtain ⟨n, hnn⟩ : ∃ n, l.length = n := ⟨_, rfl⟩
    rw [hnn] at hn ⊢
    subst hn
    go_enter Tryz.func26, Tryz.ntmps26
    go_wp2_with (first | (at_builtin; refine Lib.wpList_append_run _ rfl _ _ _ _ rfl _ _ rfl rfl _ _ H1.out ?_) | fail)
    go_ret
    exact ⟨v', rfl, H2.out, H3.out, H4.out⟩
  · clear h hb
    unfold maxLen at hcm
    obtain ⟨n, hnn⟩ : ∃ n, l.length = n := ⟨_, rfl⟩
    rw [hnn] at H1 H3 H4 hnc hl ⊢
    clear hnn
    by_cases hcn : cap = n
    · subst hcn
      go_enter Tryz.func26, Tryz.ntmps26
      go_wp2_with (first | (at_builtin; refine Lib.wpList_append_run _ rfl _ _ _ _ rfl _ _ rfl rfl _ _ H1.out ?_) | fail)
      go_ret
      exact ⟨v', rfl, H2.out, H3.out, H4.out⟩
    · go_enter Tryz.func26, Tryz.ntmps26
      go_wp2_with (first | (at_builtin; refine Lib.wpList_append_run _ rfl _ _ _ _ rfl _ _ rfl rfl _ _ H1.out ?_) | fail)
      go_ret
      exact ⟨v', rfl, H2.out, H3.out, H4.out⟩
set_option maxRecDepth 100000 in
set_option maxHeartbeats 4000000 in
/-- Within, where there is room. -/
theorem Insert_room (B : Nat) (g cap : Nat) (cur : Array Value) (l : List OffS) (x : OffS) (i g0 : Nat) (w : World) (hg : w.heap[g]? = some (.cells cur 31 (0, 0))) (hi : i < l.length) (hl : l.length ≤ 1000000) (hb : w.heap[g0]? = some (.cells (offA x) 31 (0, 0))) (hgg : g ≠ g0) (hB : B ≤ g)
    (hroom : l.length + 1 ≤ cap) (hcap : cap ≤ maxLen) (hcs : cur.size = cap * 4) (htk : cur.toList.take (l.length * 4) = l.flatMap encO) :
    Calls Tryz.prog 26 #[.slice (some ⟨g, 0, none⟩) l.length cap, .int .i64 (i : Nat), .slice (some ⟨g0, 0, none⟩) 1 1] w (InsDone B (.slice (some ⟨g, 0, none⟩) l.length cap) (l.take i ++ x :: l.drop i) w) := by
  obtain ⟨n, hn⟩ : ∃ n, l.length = n := ⟨_, rfl⟩
  rw [hn] at hi hl hroom htk ⊢
  have hz2 : ¬ ((i : Int) = (n : Int)) := by omega
  have hov : ∀ lb cb (W : World), W.heap = w.heap → (callFunc 49 #[.slice (some ⟨g0, 0, none⟩) 1 1, .slice (some ⟨g, (i + 1) * 4, none⟩) lb cb]).run Tryz.prog W = .ok (.value (.bool false)) W := fun lb cb W hW => by
    have h1 : W.heap[g0]? = some (.cells (offA x) 31 (0, 0)) := by rw [hW]; exact hb
    have h2 : W.heap[g]? = some (.cells cur 31 (0, 0)) := by rw [hW]; exact hg
    rw [run_callFunc_extern (fn := Tryz.f49) (by kernel_rfl) (by kernel_rfl) (by kernel_rfl) (by kernel_rfl) (e := Extern.SlicesOverlaps.overlaps #[22, 22] #[4]) (by kernel_rfl),
      Lib.run_overlaps_apart W 22 4 31 Tryz.underlying22 4 Tryz.sizeOf31 ⟨g0, 0, none⟩ ⟨g, (i + 1) * 4, none⟩ 1 1 lb cb (fun e => hgg e.symm) 31 31 4 (cap * 4)
        (by simp [World.shape?, h1, offA]) (by simp [World.shape?, h2, hcs]) (by omega) (by simp [World.frozen?, h1]) (by simp [World.frozen?, h1])]
    rfl
  have hF := encO_flat l
  rw [hn] at hF
  have hcl : cur.toList.length = cap * 4 := by rw [Array.length_toList]; exact hcs
  obtain ⟨F, hFF⟩ : ∃ F, l.flatMap encO = F := ⟨_, rfl⟩
  have h1F : ∀ u ∈ F, u.oneCell' = true := hFF ▸ encO_one l
  have hins : (l.take i ++ x :: l.drop i).flatMap encO = F.take (i * 4) ++ encO x ++ F.drop (i * 4) := by rw [encO_ins, hFF]
  rw [hFF] at hF htk
  have hcat : cur.toList = F ++ cur.toList.drop (n * 4) := by rw [← htk, List.take_append_drop]
  obtain ⟨X1, hX1⟩ : ∃ X1, X1 = (cur.toList.take ((i + 1) * 4) ++ F.drop (i * 4) ++ cur.toList.drop ((i + 1) * 4 + (F.drop (i * 4)).length)).toArray := ⟨_, rfl⟩
  have hX1s : X1.size = cap * 4 := by
    rw [hX1, List.size_toArray, List.length_append, List.length_append, List.length_take, List.length_drop, List.length_drop, hcl, hF]
    omega
  have hcp1 : ∀ (dLen dc sLen sc : Nat) (ty : TypeId), Nat.min sLen dLen = n - i → (Builtin.copy_ #[22, 22] ty #[.slice (some ⟨g, (i + 1) * 4, none⟩) dLen dc, .slice (some ⟨g, i * 4, none⟩) sLen sc]).run Tryz.prog w.drew = .ok (goInt (n - i : Nat)) (w.drew.setRow g X1) := fun dLen dc sLen sc ty hmn => by
    rw [hX1]
    refine copy_k w.drew _ _ ty 31 4 g ((i + 1) * 4) dLen dc ⟨g, i * 4, none⟩ sLen sc (n - i) cur 31 (F.drop (i * 4)) Tryz.underlying22 (by kernel_rfl) hg hmn (by rw [List.length_drop, hF]; omega) (fun j u hj => ?_) (by rw [List.length_drop, hF, hcs]; omega) (fun u hu => h1F u (List.mem_of_mem_drop hu))
    rw [Addr.add_lit, cell_of (w := w.drew) hg]
    rw [List.getElem?_drop] at hj
    rw [← Array.getElem?_toList, hcat, List.getElem?_append_left (List.getElem?_eq_some_iff.1 hj).1]
    exact hj
  obtain ⟨X2, hX2⟩ : ∃ X2, X2 = (X1.toList.take (i * 4) ++ encO x ++ X1.toList.drop (i * 4 + (encO x).length)).toArray := ⟨_, rfl⟩
  have hX2s : X2.size = cap * 4 := by
    rw [hX2, List.size_toArray, List.length_append, List.length_append, List.length_take, List.length_drop, Array.length_toList, hX1s, encO_length]
    omega
  have hX2t : X2.toList.take ((n + 1) * 4) = F.take (i * 4) ++ encO x ++ F.drop (i * 4) := by
    have h4 : X2.toList = F.take (i * 4) ++ encO x ++ F.drop (i * 4) ++ (cur.toList.drop (n * 4)).drop 4 := by
      rw [hX2, hX1]
      simp only [encO_length, List.length_drop, hF]
      rw [show (i + 1) * 4 = i * 4 + 4 by omega]
      have := ins_place F (cur.toList.drop (n * 4)) (encO x) (i * 4) 4 (by omega) (encO_length x) (by rw [List.length_drop, hcl]; omega)
      rw [← hcat, hF] at this
      exact this
    rw [h4, List.take_append_of_le_length (by rw [List.length_append, List.length_append, List.length_take, List.length_drop, hF, encO_length]; omega), List.take_of_length_le (by rw [List.length_append, List.length_append, List.length_take, List.length_drop, hF, encO_length]; omega)]
  have hg1 : (w.drew.setRow g X1).heap[g]? = some (.cells X1 31 (0, 0)) := setRow_heap w.drew g cur X1 _ _ hg
  have hg2 : ((w.drew.setRow g X1).setRow g X2).heap[g]? = some (.cells X2 31 (0, 0)) := setRow_heap _ g X1 X2 _ _ hg1
  have hcp2 : ∀ (dLen dc : Nat) (ty : TypeId), Nat.min 1 dLen = 1 → (Builtin.copy_ #[22, 22] ty #[.slice (some ⟨g, i * 4, none⟩) dLen dc, .slice (some ⟨g0, 0, none⟩) 1 1]).run Tryz.prog (w.drew.setRow g X1) = .ok (goInt (1 : Nat)) ((w.drew.setRow g X1).setRow g X2) := fun dLen dc ty hmn => by
    rw [hX2]
    refine copy_k _ _ _ ty 31 4 g (i * 4) dLen dc ⟨g0, 0, none⟩ 1 1 1 X1 31 (encO x) Tryz.underlying22 (by kernel_rfl) hg1 hmn (by rw [encO_length]) (fun j u hj => ?_) (by rw [encO_length, hX1s]; omega) (fun u hu => encO_one [x] u (by simpa using hu))
    have hb1 : (w.drew.setRow g X1).heap[g0]? = some (.cells (offA x) 31 (0, 0)) := by rw [setRow_other _ _ _ _ (fun e => hgg e.symm)]; exact hb
    rw [add_lit, cell_of hb1]
    match j, hj with
    | 0, hj => exact hj
    | 1, hj => exact hj
    | 2, hj => exact hj
    | 3, hj => exact hj
    | k + 4, hj => simp [encO] at hj
  have HR := box (show InsDone B (.slice (some ⟨g, 0, none⟩) n cap) (l.take i ++ x :: l.drop i) w (.returned (.slice (some ⟨g, 0, none⟩) (n + 1) cap)) ((w.drew.setRow g X1).setRow g X2) from by
    have hlen : (l.take i ++ x :: l.drop i).length = n + 1 := by rw [List.length_append, List.length_cons, List.length_take, List.length_drop, hn]; omega
    refine ⟨_, rfl, ⟨by rw [encO_flat], .inr ⟨g, cap, X2, by rw [hlen], hB, hg2, by rw [hlen]; exact hroom, hcap, hX2s, by rw [hlen, hX2t, hins]⟩⟩, ?_, fun k hk => .inl hk⟩
    exact keeps_setRow (keeps_setRow (Keeps.refl (fun k => (Value.slice (some ⟨g, 0, none⟩) n cap).ownBlock = some k) w).drew (.inl rfl) _) (.inl rfl) _)
  unfold maxLen at hcap
  have hw1 : IntKind.i64.wrap ((i : Int) + 1) = (i : Int) + 1 := by rw [IntKind.wrap_i64]; omega
  have htn : ((i : Int) + 1).toNat = i + 1 := by omega
  have hb2 : ¬ (cap = i + 1) := by omega
  have hb4 : ¬ (cap = i) := by omega
  have hmn1 : Nat.min (n + 1 - i) (n - i) = n - i := by simp only [Nat.min_def]; split <;> omega
  have hmn2 : Nat.min 1 (n + 1 - i) = 1 := by simp only [Nat.min_def]; split <;> omega
  have mixed : Tryz.prog.follows .mixedOrders = true := by kernel_rfl
  have hb1 : (0 : Int) ≤ (i : Int) + 1 := by omega
  have hin : i ≤ n := by omega
  have hb3 : (i : Int) ≤ (n : Int) + 1 := by omega
  clear hg hb htk hcs hX1 hX2 hg1 hg2 hX1s hX2s hX2t hcat hins h1F hF hcl hFF
  go_enter Tryz.func26, Tryz.ntmps26
  go_wp2_with fail
  go_region_law_o (refine copy_step rfl _ _ 22 22 rfl _ _ (by simp [Act.eval, Act.put]) (by simp [Act.eval, Act.put]) (hcp1 (n - i) (cap - (i + 1)) (n + 1 - i) (cap - i) _ hmn1) ?_)
  go_wp2_with (at_builtin; refine copy_here _ rfl _ _ 22 22 rfl _ _ rfl rfl (hcp2 (n + 1 - i) (cap - i) _ hmn2) ?_)
  go_ret
  exact HR.out
end Go.Proofs.YtafdfmdcnniccaaGreat.ofs

/- Layer 14: Insert at offsets, where there is no room. -/
namespace Go.Proofs.YtafdfmdcnniccaaGreat.ofs
open Go.ChangeShapes Go.WideShapes Go.ChangeAt Go.RowKit
open Go.Proofs.YtafdfmdcnniccaaGreat.dk Go.Proofs.YtafdfmdcnniccaaGreat.nm

set_option maxRecDepth 100000 in
set_option maxHeartbeats 4000000 in
/-- Within, where there is no room. -/
theorem Insert_grow (B : Nat) (g : Nat) (cur : Array Value) (l : List OffS) (x : OffS) (i g0 : Nat) (w : World) (hg : w.heap[g]? = some (.cells cur 31 (0, 0))) (hi : i < l.length) (hl : l.length ≤ 1000000) (hb : w.heap[g0]? = some (.cells (offA x) 31 (0, 0))) (hB : B ≤ w.heap.size)
    (hcs : cur.size = l.length * 4) (htk : cur.toList.take (l.length * 4) = l.flatMap encO) :
    Calls Tryz.prog 26 #[.slice (some ⟨g, 0, none⟩) l.length l.length, .int .i64 (i : Nat), .slice (some ⟨g0, 0, none⟩) 1 1] w (InsDone B (.slice (some ⟨g, 0, none⟩) l.length l.length) (l.take i ++ x :: l.drop i) w) := by
  obtain ⟨n, hn⟩ : ∃ n, l.length = n := ⟨_, rfl⟩
  rw [hn] at hi hl htk hcs ⊢
  obtain ⟨i0, hi0, hz0, hzs, hzb⟩ := info_parts infoOff
  have hF := encO_flat l
  rw [hn] at hF
  have hcl : cur.toList.length = n * 4 := by rw [Array.length_toList]; exact hcs
  obtain ⟨F, hFF⟩ : ∃ F, l.flatMap encO = F := ⟨_, rfl⟩
  have h1F : ∀ u ∈ F, u.oneCell' = true := hFF ▸ encO_one l
  have hins : (l.take i ++ x :: l.drop i).flatMap encO = F.take (i * 4) ++ encO x ++ F.drop (i * 4) := by rw [encO_ins, hFF]
  rw [hFF] at hF htk
  have hcat : cur.toList = F := by rw [← htk, List.take_of_length_le (by omega)]
  have hik : i + (n + 1 - i) = n + 1 := by omega
  have hkk : (n : Int) + 1 - (i : Int) = ((n + 1 - i : Nat) : Int) := by omega
  have hgl := heap_lt hg
  have hgl0 := heap_lt hb
  have hold : (Builtin.firstCells i0.size i (.slice (some ⟨g, 0, none⟩) i n)).run Tryz.prog w.drew = .ok (F.take (i * 4)).toArray w.drew := by
    rw [hzs]
    refine run_firstCells_some w.drew 4 i ⟨g, 0, none⟩ i n (F.take (i * 4)) (by rw [List.length_take]; omega) (fun j u hj => ?_)
    rw [Addr.add_lit, Nat.zero_add, cell_of (w := w.drew) hg, ← Array.getElem?_toList, hcat]
    rw [List.getElem?_take] at hj
    split at hj
    · exact hj
    · cases hj
  obtain ⟨G, hG⟩ : ∃ G, grownCap w (n + 1) n 31 = G := ⟨_, rfl⟩
  have hGn : n + 1 ≤ G := by rw [← hG]; exact grownCap_ge w _ _ _
  have hGm : G ≤ maxLen := by rw [← hG]; exact grownCap_le_maxLen w _ _ _ (by unfold maxLen; omega)
  obtain ⟨Z, hZ⟩ : ∃ Z : List Value, Z = (Builtin.zeroCells (Value.agg #[.string ⟨#[]⟩, .string ⟨#[]⟩, .int .i64 0, .int .i64 0]).cells (n + 1 - i) ++ Builtin.zeroCells (Value.agg #[.string ⟨#[]⟩, .string ⟨#[]⟩, .int .i64 0, .int .i64 0]).cells (G - (n + 1))).toList := ⟨_, rfl⟩
  have hZl : Z.length = (G - i) * 4 := by
    rw [hZ, Array.length_toList, Array.size_append]
    simp [Builtin.zeroCells, Value.cells]
    omega
  have hrz : ∀ ty, (Builtin.append_ #[22, 3] ty #[.slice (some ⟨g, 0, none⟩) i n, .int .i64 ((n : Int) + 1 - (i : Int))]).run Tryz.prog w = .ok (.slice (some ⟨w.heap.size, 0, none⟩) (n + 1) G) (w.drew.alloc (.cells (F.take (i * 4) ++ Z).toArray 31)) := fun ty => by
    have h := Lib.run_append_grow_zeros w 22 3 ty 31 i0 _ .i64 .i64 Tryz.underlying22 Tryz.underlying3 hi0 hz0 (some ⟨g, 0, none⟩) i n (F.take (i * 4)) hold (n + 1 - i) (by omega) (by omega) (by omega) (by omega) (by rw [hzb]; omega) (by rw [hzb, hik]; exact growslice_fits (by omega) (by omega))
    rw [hik, hG] at h
    have e : ∀ (p q : Array Value) (f : List Value), f.toArray ++ p ++ q = (f ++ (p ++ q).toList).toArray := fun p q f => by
      apply Array.toList_inj.1
      simp
    rw [hkk, h, hZ, e]
  obtain ⟨ROW, hROW⟩ : ∃ ROW : List Value, F.take (i * 4) ++ Z = ROW := ⟨_, rfl⟩
  rw [hROW] at hrz
  have hRl : ROW.length = G * 4 := by rw [← hROW, List.length_append, List.length_take, hZl, hF]; omega
  obtain ⟨W1, hW1⟩ : ∃ W1, w.drew.alloc (.cells ROW.toArray 31) = W1 := ⟨_, rfl⟩
  have hN1 : W1.heap[w.heap.size]? = some (.cells ROW.toArray 31 (0, 0)) := by rw [← hW1]; exact heap_new w.drew _
  have hcw : Calm w W1 := by rw [← hW1]; exact ((Calm.refl w).drew).alloc _
  have hb1 := heap_calm hcw hb
  have hg1 := heap_calm hcw hg
  rw [hW1] at hrz
  obtain ⟨Y1, hY1⟩ : ∃ Y1, Y1 = (ROW.take (i * 4) ++ encO x ++ ROW.drop (i * 4 + 4)).toArray := ⟨_, rfl⟩
  have hY1s : Y1.size = G * 4 := by
    rw [hY1, List.size_toArray, List.length_append, List.length_append, List.length_take, List.length_drop, hRl, encO_length]
    omega
  have hcp1 : ∀ (dLen dc : Nat) (ty : TypeId), Nat.min 1 dLen = 1 → (Builtin.copy_ #[22, 22] ty #[.slice (some ⟨w.heap.size, i * 4, none⟩) dLen dc, .slice (some ⟨g0, 0, none⟩) 1 1]).run Tryz.prog W1 = .ok (goInt (1 : Nat)) (W1.setRow w.heap.size Y1) := fun dLen dc ty hmn => by
    have := copy_k (P := Tryz.prog) W1 22 22 ty 31 4 w.heap.size (i * 4) dLen dc ⟨g0, 0, none⟩ 1 1 1 ROW.toArray 31 (encO x) Tryz.underlying22 (by kernel_rfl) hN1 hmn (by rw [encO_length]) (fun j u hj => by
      rw [Addr.add_lit, Nat.zero_add, cell_of hb1]
      match j, hj with
      | 0, hj => exact hj
      | 1, hj => exact hj
      | 2, hj => exact hj
      | 3, hj => exact hj
      | k + 4, hj => simp [encO] at hj) (by rw [encO_length, List.size_toArray, hRl]; omega) (fun u hu => encO_one [x] u (by simpa using hu))
    rw [this, hY1]
    rfl
  obtain ⟨Y2, hY2⟩ : ∃ Y2, Y2 = (Y1.toList.take (i * 4 + 4) ++ F.drop (i * 4) ++ Y1.toList.drop (i * 4 + 4 + (F.length - i * 4))).toArray := ⟨_, rfl⟩
  have hY2s : Y2.size = G * 4 := by
    rw [hY2, List.size_toArray, List.length_append, List.length_append, List.length_take, List.length_drop, List.length_drop, Array.length_toList, hY1s, hF]
    omega
  have hY2t : Y2.toList.take ((n + 1) * 4) = F.take (i * 4) ++ encO x ++ F.drop (i * 4) := by
    have h4 : Y2.toList = F.take (i * 4) ++ encO x ++ F.drop (i * 4) ++ Z.drop (4 + (F.length - i * 4)) := by
      rw [hY2, hY1, ← hROW]
      exact ins_new F Z (encO x) (i * 4) 4 (by omega) (encO_length x) (by rw [hZl, hF]; omega)
    rw [h4, List.take_append_of_le_length (by rw [List.length_append, List.length_append, List.length_take, List.length_drop, hF, encO_length]; omega), List.take_of_length_le (by rw [List.length_append, List.length_append, List.length_take, List.length_drop, hF, encO_length]; omega)]
  have hN2 : (W1.setRow w.heap.size Y1).drew.heap[w.heap.size]? = some (.cells Y1 31 (0, 0)) := setRow_heap W1 w.heap.size _ Y1 _ _ hN1
  have hN3 : ((W1.setRow w.heap.size Y1).drew.setRow w.heap.size Y2).heap[w.heap.size]? = some (.cells Y2 31 (0, 0)) := setRow_heap _ w.heap.size Y1 Y2 _ _ hN2
  have hcp2 : ∀ (dLen dc sLen sc : Nat) (ty : TypeId), Nat.min sLen dLen = n - i → (Builtin.copy_ #[22, 22] ty #[.slice (some ⟨w.heap.size, (i + 1) * 4, none⟩) dLen dc, .slice (some ⟨g, i * 4, none⟩) sLen sc]).run Tryz.prog (W1.setRow w.heap.size Y1).drew = .ok (goInt (n - i : Nat)) ((W1.setRow w.heap.size Y1).drew.setRow w.heap.size Y2) := fun dLen dc sLen sc ty hmn => by
    have hg2 : (W1.setRow w.heap.size Y1).drew.heap[g]? = some (.cells cur 31 (0, 0)) := (setRow_other W1 w.heap.size g Y1 (by omega)).trans hg1
    have := copy_k (P := Tryz.prog) (W1.setRow w.heap.size Y1).drew 22 22 ty 31 4 w.heap.size ((i + 1) * 4) dLen dc ⟨g, i * 4, none⟩ sLen sc (n - i) Y1 31 (F.drop (i * 4)) Tryz.underlying22 (by kernel_rfl) hN2 hmn (by rw [List.length_drop, hF]; omega) (fun j u hj => by
      rw [Addr.add_lit, cell_of hg2, ← Array.getElem?_toList, hcat]
      rw [List.getElem?_drop] at hj
      exact hj) (by rw [List.length_drop, hF, hY1s]; omega) (fun u hu => h1F u (List.mem_of_mem_drop hu))
    rw [this, hY2, List.length_drop, show (i + 1) * 4 = i * 4 + 4 by omega]
  have HR := box (show InsDone B (.slice (some ⟨g, 0, none⟩) n n) (l.take i ++ x :: l.drop i) w (.returned (.slice (some ⟨w.heap.size, 0, none⟩) (n + 1) G)) ((W1.setRow w.heap.size Y1).drew.setRow w.heap.size Y2) from by
    have hlen : (l.take i ++ x :: l.drop i).length = n + 1 := by rw [List.length_append, List.length_cons, List.length_take, List.length_drop, hn]; omega
    refine ⟨_, rfl, ⟨by rw [encO_flat], .inr ⟨w.heap.size, G, Y2, by rw [hlen], hB, hN3, by rw [hlen]; exact hGn, hGm, hY2s, by rw [hlen, hY2t, hins]⟩⟩, ?_, fun k hk => by cases hk; exact .inr (Nat.le_refl _)⟩
    exact keeps_setRow (keeps_setRow (Keeps.of_calm (F := fun k => (Value.slice (some ⟨g, 0, none⟩) n n).ownBlock = some k) hcw) (.inr (Nat.le_refl _)) _).drew (.inr (Nat.le_refl _)) _)
  have hmn1 : Nat.min (n - i) (n - i) = n - i := Nat.min_self _
  have hmn2 : Nat.min 1 (n + 1 - i) = 1 := by simp only [Nat.min_def]; split <;> omega
  have mixed : Tryz.prog.follows .mixedOrders = true := by kernel_rfl
  unfold maxLen at hGm
  have hz2 : ¬ ((i : Int) = (n : Int)) := by omega
  have hz3 : (n : Int) < (n : Int) + 1 := by omega
  have hw1 : IntKind.i64.wrap ((i : Int) + 1) = (i : Int) + 1 := by rw [IntKind.wrap_i64]; omega
  have hbb1 : (0 : Int) ≤ (i : Int) + 1 := by omega
  have hin : i ≤ n := by omega
  have htn : ((i : Int) + 1).toNat = i + 1 := by omega
  have hb3 : (i : Int) ≤ (n : Int) := by omega
  have hGi : ¬ (G = i) := by omega
  have hGim : ¬ (G = i + 1) := by omega
  have hni : ¬ (n = i) := by omega
  have hrz := box hrz
  clear hg hb hcs hold hZ hZl hkk hik hROW hRl hW1 hN1 hcw hb1 hg1 hY1 hY1s hY2 hY2s hY2t hN2 hN3 hF hcl hFF h1F hins hcat htk hG hi0 hz0 hzs hzb
  go_enter Tryz.func26, Tryz.ntmps26
  go_wp2_with (first
    | (at_builtin; refine Lib.wpList_append_run _ rfl _ _ _ _ rfl _ _ rfl rfl _ _ (hrz.out _) ?_)
    | (at_builtin; refine copy_here _ rfl _ _ 22 22 rfl _ _ rfl rfl (hcp1 (n + 1 - i) (G - i) _ hmn2) ?_)
    | fail)
  go_region_law_o (refine copy_step rfl _ _ 22 22 rfl _ _ (by simp [Act.eval, Act.put]) (by simp [Act.eval, Act.put]) (hcp2 (n - i) (G - (i + 1)) (n - i) (n - i) _ hmn1) ?_)
  go_wp2_with fail
  go_ret
  exact HR.out
/-- Insert of one. -/
theorem Insert_any (B : Nat) (v : Value) (l : List OffS) (x : OffS) (i g0 : Nat) (w : World) (h : offRow B w v l) (hi : i ≤ l.length) (hl : l.length ≤ 1000000) (hb : w.heap[g0]? = some (.cells (offA x) 31 (0, 0))) (hg0 : v.ownBlock ≠ some g0) (hB : B ≤ w.heap.size) :
    Calls Tryz.prog 26 #[v, .int .i64 (i : Nat), .slice (some ⟨g0, 0, none⟩) 1 1] w (InsDone B v (l.take i ++ x :: l.drop i) w) := by
  by_cases he : i = l.length
  · subst he
    rw [List.take_length, List.drop_length]
    exact Insert_end B v l x g0 w h hl hb hB
  · rcases h.2 with ⟨_, hn⟩ | ⟨g, cap, cur, rfl, hbg, hg, hnc, hcm, hcs, htk⟩
    · omega
    · by_cases hr : l.length + 1 ≤ cap
      · exact Insert_room B g cap cur l x i g0 w hg (by omega) hl hb (fun e => hg0 (by rw [e]; rfl)) hbg hr hcm hcs htk
      · obtain rfl : cap = l.length := by omega
        exact Insert_grow B g cur l x i g0 w hg (by omega) hl hb hB hcs htk
end Go.Proofs.YtafdfmdcnniccaaGreat.ofs

/- Layer 14: Set. -/
namespace Go.Proofs.YtafdfmdcnniccaaGreat.ofs
open Go.ChangeShapes Go.WideShapes Go.ChangeAt Go.RowKit
open Go.Proofs.YtafdfmdcnniccaaGreat.dk Go.Proofs.YtafdfmdcnniccaaGreat.nm

/-- Offsets lie at o, over the disk at p. -/
def OffAt (w : World) (o p : Nat) (v : Value) : Prop := w.heap[o]? = some (.cells #[ptrTo p, v] 58 (0, 0))
structure Ofs (B : Nat) (w : World) (o p : Nat) (v : Value) (l : List OffS) : Prop where
  at_ : OffAt w o p v
  row : offRow B w v l
  few : l.length ≤ 64
  rising : Rising l
  ok : ∀ x ∈ l, rightO x = 0
theorem Ofs.calm {B o p : Nat} {w w' : World} {v : Value} {l : List OffS} (h : Ofs B w o p v l) (hc : Calm w w') : Ofs B w' o p v l := ⟨heap_calm hc h.at_, own_calm h.row hc, h.few, h.rising, h.ok⟩
theorem Ofs.apart {B o p : Nat} {w : World} {v : Value} {l : List OffS} (h : Ofs B w o p v l) : v.ownBlock ≠ some o := fun e => by
  obtain ⟨cur, hc⟩ := own_row h.row e
  have h1 := h.at_
  unfold OffAt at h1
  rw [hc] at h1
  simp only [Option.some.injEq, Obj.cells.injEq] at h1
  exact absurd h1.2.1 (by decide)
/-- What Set tells. -/
def setC (l : List OffS) (x : OffS) : Int := if rightO x ≠ 0 then rightO x else if (findO l x).isSome = true then 0 else if 64 ≤ l.length then 6 else 0
def setL (l : List OffS) (x : OffS) : List OffS := if setC l x = 0 then setO l x else l
theorem list_set4 {α : Type} (a b c d : α) : ∀ (p : Nat) (L : List α), p + 4 ≤ L.length → ((((L.set p a).set (p + 1) b).set (p + 2) c).set (p + 3) d) = L.take p ++ [a, b, c, d] ++ L.drop (p + 4)
  | 0, x :: y :: z :: u :: L, _ => rfl
  | 0, [], h => by simp at h
  | 0, [_], h => by simp at h
  | 0, [_, _], h => by simp at h
  | 0, [_, _, _], h => by simp at h
  | p + 1, [], h => by simp at h
  | p + 1, x :: L, h => by
    have := list_set4 a b c d p L (by simpa using h)
    have e : ∀ k v (M : List α), (x :: M).set (k + 1) v = x :: M.set k v := fun _ _ _ => rfl
    show ((((x :: L).set (p + 1) a).set ((p + 1) + 1) b).set ((p + 2) + 1) c).set ((p + 3) + 1) d = x :: (L.take p ++ [a, b, c, d] ++ L.drop (p + 4))
    rw [e, e, e, e, this]
def set4 (w : World) (g k : Nat) (x : OffS) : World := (((w.setCell ⟨g, k, none⟩ (.string x.group)).setCell ⟨g, k + 1, none⟩ (.string x.topic)).setCell ⟨g, k + 2, none⟩ (.int .i64 x.queue)).setCell ⟨g, k + 3, none⟩ (.int .i64 x.at_)
theorem set4_keeps {F : Nat → Prop} {a w : World} (h : Keeps F a w) {g : Nat} (hg : F g ∨ a.heap.size ≤ g) (k : Nat) (x : OffS) : Keeps F a (set4 w g k x) :=
  (((h.setCell (p := ⟨g, k, none⟩) hg _).setCell (p := ⟨g, k + 1, none⟩) hg _).setCell (p := ⟨g, k + 2, none⟩) hg _).setCell (p := ⟨g, k + 3, none⟩) hg _
theorem set4_row {B g cap P : Nat} {w : World} {l : List OffS} (h : offRow B w (.slice (some ⟨g, 0, none⟩) l.length cap) l) (hP : P < l.length) (x : OffS) :
    offRow B (set4 w g (P * 4) x) (.slice (some ⟨g, 0, none⟩) l.length cap) (l.take P ++ x :: l.drop (P + 1)) := by
  rcases h.2 with ⟨_, hn⟩ | ⟨g', cap', cur, hv, hbg, hg, hnc, hcm, hcs, htk⟩
  · omega
  cases hv
  have hlen : (l.take P ++ x :: l.drop (P + 1)).length = l.length := by rw [List.length_append, List.length_cons, List.length_take, List.length_drop]; omega
  have h1 := heap_set (heap_set (heap_set (heap_set hg (P * 4) (.string x.group)) (P * 4 + 1) (.string x.topic)) (P * 4 + 2) (.int .i64 x.queue)) (P * 4 + 3) (.int .i64 x.at_)
  refine ⟨by rw [encO_flat], .inr ⟨g, cap, _, by rw [hlen], hbg, h1, by rw [hlen]; exact hnc, hcm, by simp [hcs], ?_⟩⟩
  rw [hlen]
  simp only [Array.toList_setIfInBounds]
  rw [list_set4 _ _ _ _ (P * 4) cur.toList (by rw [Array.length_toList, hcs]; omega)]
  have hF := encO_flat l
  obtain ⟨F, hFF⟩ : ∃ F, l.flatMap encO = F := ⟨_, rfl⟩
  have hins : (l.take P ++ x :: l.drop (P + 1)).flatMap encO = F.take (P * 4) ++ encO x ++ F.drop (P * 4 + 4) := by
    rw [List.flatMap_append, List.flatMap_cons, encO_take, encO_drop, hFF, show (P + 1) * 4 = P * 4 + 4 by omega, List.append_assoc]
  rw [hFF] at hF htk
  have hcat : cur.toList = F ++ cur.toList.drop (l.length * 4) := by rw [← htk, List.take_append_drop]
  have hlF : (F.take (P * 4) ++ [Value.string x.group, .string x.topic, .int .i64 x.queue, .int .i64 x.at_] ++ F.drop (P * 4 + 4)).length = l.length * 4 := by
    rw [List.length_append, List.length_append, List.length_take, List.length_drop, hF]
    simp only [List.length_cons, List.length_nil]
    omega
  obtain ⟨R, hR⟩ : ∃ R, cur.toList.drop (l.length * 4) = R := ⟨_, rfl⟩
  rw [hR] at hcat
  have h5 : (F ++ R).take (P * 4) = F.take (P * 4) := List.take_append_of_le_length (by omega)
  have h6 : (F ++ R).drop (P * 4 + 4) = F.drop (P * 4 + 4) ++ R := List.drop_append_of_le_length (by omega)
  rw [hcat, h5, h6, ← List.append_assoc, List.take_append_of_le_length (by omega), List.take_of_length_le (by omega), hins]
  rfl
def SetDone (B o p : Nat) (v : Value) (l : List OffS) (x : OffS) (w : World) (e : Ending) (w' : World) : Prop :=
  ∃ v', e = .returned (.int .i64 (setC l x)) ∧ Ofs B w' o p v' (setL l x) ∧ Keeps (fun b => b = o ∨ v.ownBlock = some b) w w' ∧ ∀ g, v'.ownBlock = some g → v.ownBlock = some g ∨ w.heap.size ≤ g
set_option maxRecDepth 100000 in
set_option maxHeartbeats 4000000 in
theorem Set_any (B o p : Nat) (v : Value) (l : List OffS) (x : OffS) (w : World) (h : Ofs B w o p v l) (hB : B ≤ w.heap.size) :
    Calls Tryz.prog 9 #[ptrTo o, .agg (offA x)] w (SetDone B o p v l x w) := by
  obtain ⟨xg, xt, xq, xa⟩ := x
  unfold offA
  simp only
  obtain ⟨x, hx⟩ : ∃ x : OffS, ⟨xg, xt, xq, xa⟩ = x := ⟨_, rfl⟩
  rw [hx]
  have HC0 := box ((Calm.refl w).alloc (.cells #[.string xg, .string xt, .int .i64 xq, .int .i64 xa] 31))
  have Hn := box (heap_new w (.cells #[.string xg, .string xt, .int .i64 xq, .int .i64 xa] 31))
  have hright := box (fun (W : World) => (show Calls Tryz.prog _ #[.agg #[.string xg, .string xt, .int .i64 xq, .int .i64 xa]] W _ from right_any ⟨xg, xt, xq, xa⟩ W))
  have H := box h
  have hfew := h.few
  have hsearch := box (fun (W : World) (hc : Calm w W) => (show Calls Tryz.prog _ #[v, .agg #[.string xg, .string xt, .int .i64 xq, .int .i64 xa], .func (.func 25) #[] #[]] W _ from Search_any v l ⟨xg, xt, xq, xa⟩ W (h.row.offs.calm hc) (by omega) h.rising))
  rw [hx] at hright hsearch
  have hc1 := h.calm HC0.out
  have c0 := cell_of hc1.at_ 0
  have c1 := cell_of hc1.at_ 1
  have olt := heap_lt hc1.at_
  have n0 := cell_of Hn.out 0
  have n1 := cell_of Hn.out 1
  have n2 := cell_of Hn.out 2
  have n3 := cell_of Hn.out 3
  have nlt := heap_lt Hn.out
  have hcells := box (fun W (hc : Calm (w.alloc (.cells #[.string xg, .string xt, .int .i64 xq, .int .i64 xa] 31)) W) => (show W.cell? ⟨o, 1, none⟩ = some v ∧ W.cell? ⟨w.heap.size, 0, none⟩ = some (.string xg) ∧ W.cell? ⟨w.heap.size, 1, none⟩ = some (.string xt) ∧ W.cell? ⟨w.heap.size, 2, none⟩ = some (.int .i64 xq) ∧ W.cell? ⟨w.heap.size, 3, none⟩ = some (.int .i64 xa) from
    ⟨cell_of (heap_calm hc hc1.at_) 1, cell_of (heap_calm hc Hn.out) 0, cell_of (heap_calm hc Hn.out) 1, cell_of (heap_calm hc Hn.out) 2, cell_of (heap_calm hc Hn.out) 3⟩))
  obtain ⟨va, vc, hva, _⟩ := h.row.offs
  subst hva
  have Hs := box (show ∀ c, setC l x = c → (c = 0 → setL l x = setO l x) ∧ (c ≠ 0 → setL l x = l) from fun c hc => by unfold setL; rw [hc]; exact ⟨fun h => if_pos h, fun h => if_neg h⟩)
  have Hcode := box (show setC l x = if rightO x ≠ 0 then rightO x else if (findO l x).isSome = true then 0 else if 64 ≤ l.length then 6 else 0 from rfl)
  obtain ⟨W1, hW1⟩ : ∃ W1, w.alloc (.cells #[.string xg, .string xt, .int .i64 xq, .int .i64 xa] 31) = W1 := ⟨_, rfl⟩
  rw [hW1] at HC0 Hn c0 c1 olt n0 n1 n2 n3 nlt hcells
  clear h hc1
  obtain ⟨r, hr⟩ : ∃ r, rightO x = r := ⟨_, rfl⟩
  rw [hr] at hright Hcode
  have Hr := box hr
  obtain ⟨fo, hfo⟩ : ∃ fo, (findO l x).isSome = fo := ⟨_, rfl⟩
  rw [hfo] at hsearch Hcode
  have Hfo := box hfo
  clear hr hfo
  by_cases hr0 : r = 0
  · subst hr0
    cases fo
    · have hfn : findO l x = none := by
        have := Hfo.out
        cases hq : findO l x with
        | none => rfl
        | some y => rw [hq] at this; cases this
      have Hfn := box hfn
      have hplace := set_place l x H.out.rising
      have hset : setO l x = l.take (placeO l x) ++ x :: l.drop (placeO l x) := by
        have h4 := hplace.2.2.2.1
        have h5 := hplace.2.2.2.2
        by_cases hq : placeO l x < l.length ∧ ordO l[placeO l x]! x = 0
        · rw [if_pos hq, hfn] at h5; cases h5
        · rw [if_neg hq] at h4; exact h4
      have hple := hplace.2.2.1
      clear hplace hfn
      obtain ⟨P, hP⟩ : ∃ P, placeO l x = P := ⟨_, rfl⟩
      rw [hP] at hsearch hple hset
      have Hset := box hset
      clear hP hset
      by_cases h64 : 64 ≤ l.length
      · have Hcode2 := box (show setC l x = 6 by rw [Hcode.out]; simp [h64])
        clear Hcode
        go_enter Tryz.func9, Tryz.ntmps9
        go_wp2_with fail
        refine (hright.out _).mono ?_
        rintro e w2 ⟨rfl, hc2⟩
        have HC2 := box hc2
        obtain ⟨d1, m0, m1, m2, m3⟩ := hcells.out w2 hc2
        have olt2 := Nat.lt_of_lt_of_le olt hc2.size
        have nlt2 := Nat.lt_of_lt_of_le nlt hc2.size
        clear hc2 c0 c1 n0 n1 n2 n3 olt nlt
        go_upto_region 6 with fail
        go_region_held3 (fun w' => w'.cell? ⟨o, 1, none⟩ = some (.slice va l.length vc) ∧ w'.cell? ⟨w.heap.size, 0, none⟩ = some (.string xg) ∧ w'.cell? ⟨w.heap.size, 1, none⟩ = some (.string xt) ∧ w'.cell? ⟨w.heap.size, 2, none⟩ = some (.int .i64 xq) ∧ w'.cell? ⟨w.heap.size, 3, none⟩ = some (.int .i64 xa)) (first | go_keep | exact hcells.out _ (HC2.out.trans (by (repeat' (first | (with_reducible exact Calm.refl _) | (with_reducible assumption) | (with_reducible refine Calm.drew ?_) | (with_reducible refine Calm.alloc ?_ _) | (with_reducible refine Calm.trans ?_ (by assumption))))))) ((go_at_call 24; refine (hsearch.out _ (HC0.out.trans (HC2.out.trans (by (repeat' (first | (with_reducible exact Calm.refl _) | (with_reducible assumption) | (with_reducible refine Calm.drew ?_) | (with_reducible refine Calm.alloc ?_ _) | (with_reducible refine Calm.trans ?_ (by assumption)))))))).mono ?_; rintro e w3 ⟨rfl, hc3⟩))
        have HC3 := box (show Calm w2 w3 by (repeat' (first | (with_reducible exact Calm.refl _) | (with_reducible assumption) | (with_reducible refine Calm.drew ?_) | (with_reducible refine Calm.alloc ?_ _) | (with_reducible refine Calm.trans ?_ (by assumption)))))
        clear hc3 hsearch hright d1 m0 m1 m2 m3 olt2 nlt2
        obtain ⟨d1, m0, m1, m2, m3⟩ := hcells.out w3 (HC2.out.trans HC3.out)
        have olt3 := heap_lt (heap_calm (HC0.out.trans (HC2.out.trans HC3.out)) H.out.at_)
        go_wp2_with fail
        go_ret
        refine ⟨.slice va l.length vc, by rw [Hcode2.out]; rfl, ?_, Keeps.of_calm (HC0.out.trans (HC2.out.trans HC3.out)), fun k hk => .inl hk⟩
        rw [(Hs.out 6 Hcode2.out).2 (by decide)]
        exact H.out.calm (HC0.out.trans (HC2.out.trans HC3.out))
      · have Hcode2 := box (show setC l x = 0 by rw [Hcode.out]; simp [h64])
        clear Hcode
        go_enter Tryz.func9, Tryz.ntmps9
        go_wp2_with fail
        refine (hright.out _).mono ?_
        rintro e w2 ⟨rfl, hc2⟩
        have HC2 := box hc2
        obtain ⟨d1, m0, m1, m2, m3⟩ := hcells.out w2 hc2
        have olt2 := Nat.lt_of_lt_of_le olt hc2.size
        have nlt2 := Nat.lt_of_lt_of_le nlt hc2.size
        clear hc2 c0 c1 n0 n1 n2 n3 olt nlt
        go_upto_region 6 with fail
        go_region_held3 (fun w' => w'.cell? ⟨o, 1, none⟩ = some (.slice va l.length vc) ∧ w'.cell? ⟨w.heap.size, 0, none⟩ = some (.string xg) ∧ w'.cell? ⟨w.heap.size, 1, none⟩ = some (.string xt) ∧ w'.cell? ⟨w.heap.size, 2, none⟩ = some (.int .i64 xq) ∧ w'.cell? ⟨w.heap.size, 3, none⟩ = some (.int .i64 xa)) (first | go_keep | exact hcells.out _ (HC2.out.trans (by (repeat' (first | (with_reducible exact Calm.refl _) | (with_reducible assumption) | (with_reducible refine Calm.drew ?_) | (with_reducible refine Calm.alloc ?_ _) | (with_reducible refine Calm.trans ?_ (by assumption))))))) ((go_at_call 24; refine (hsearch.out _ (HC0.out.trans (HC2.out.trans (by (repeat' (first | (with_reducible exact Calm.refl _) | (with_reducible assumption) | (with_reducible refine Calm.drew ?_) | (with_reducible refine Calm.alloc ?_ _) | (with_reducible refine Calm.trans ?_ (by assumption)))))))).mono ?_; rintro e w3 ⟨rfl, hc3⟩))
        have HC3 := box (show Calm w2 w3 by (repeat' (first | (with_reducible exact Calm.refl _) | (with_reducible assumption) | (with_reducible refine Calm.drew ?_) | (with_reducible refine Calm.alloc ?_ _) | (with_reducible refine Calm.trans ?_ (by assumption)))))
        clear hc3 hsearch hright d1 m0 m1 m2 m3 olt2 nlt2
        obtain ⟨d1, m0, m1, m2, m3⟩ := hcells.out w3 (HC2.out.trans HC3.out)
        have olt3 := heap_lt (heap_calm (HC0.out.trans (HC2.out.trans HC3.out)) H.out.at_)
        have hcwA : Calm w w3 := HC0.out.trans (HC2.out.trans HC3.out)
        have Hca := box ((Calm.refl w3).alloc (.cells #[.string xg, .string xt, .int .i64 xq, .int .i64 xa] 31))
        have hS := box (fun W (hc : Calm w3 W) => (show W.cell? ⟨o, 1, none⟩ = some (.slice va l.length vc) ∧ Box (W.cell? ⟨w.heap.size, 0, none⟩ = some (.string xg) ∧ W.cell? ⟨w.heap.size, 1, none⟩ = some (.string xt) ∧ W.cell? ⟨w.heap.size, 2, none⟩ = some (.int .i64 xq) ∧ W.cell? ⟨w.heap.size, 3, none⟩ = some (.int .i64 xa)) from
          ⟨(hcells.out W (HC2.out.trans (HC3.out.trans hc))).1, box (hcells.out W (HC2.out.trans (HC3.out.trans hc))).2⟩))
        have hins := Insert_any B (.slice va l.length vc) l x P w3.heap.size (w3.alloc (.cells #[.string xg, .string xt, .int .i64 xq, .int .i64 xa] 31)).drew ((own_calm H.out.row hcwA).alloc _) hple (by omega) (by rw [← hx]; exact heap_new w3 _) (fun e => by
          have := ((own_calm H.out.row hcwA).lt _ e).2
          omega) (Nat.le_trans hB (Nat.le_trans hcwA.size Hca.out.size))
        have Hins := box hins
        have HwA := box hcwA
        clear hins hcwA
        go_upto_region 7 with fail
        clear hW1
        refine wp_region_held_drew (S := fun w' => Box (w'.cell? ⟨w.heap.size, 0, none⟩ = some (.string xg) ∧ w'.cell? ⟨w.heap.size, 1, none⟩ = some (.string xt) ∧ w'.cell? ⟨w.heap.size, 2, none⟩ = some (.int .i64 xq) ∧ w'.cell? ⟨w.heap.size, 3, none⟩ = some (.int .i64 xa)) ∧ Box True) (by kernel_rfl) ⟨box ⟨m0, m1, m2, m3⟩, box trivial⟩ (fun hHeld0 => ?_)
        clear m0 m1 m2 m3
        ((refine' wpAnyH_take (i := 0) (v := _) rfl (by kernel_rfl) (by kernel_rfl) (by kernel_rfl) (fun _ _ _ h => h) (Or.inl ⟨by rfl, ?hy502⟩) (by assumption) ?rest502; (case hy502 => (intro w hSw; (try dsimp only at hSw); go_simp <;> with_reducible rfl)); simp only [List.getElem_toArray, List.getElem_cons_succ, List.getElem_cons_zero, Act.put, List.setIfInBounds_toArray, List.set_cons_zero, List.set_cons_succ]); (refine' wpAnyH_take (i := 1) (v := _) rfl (by kernel_rfl) (by kernel_rfl) (by kernel_rfl) (fun _ _ _ h => h) (Or.inl ⟨by rfl, ?hy503⟩) (by assumption) ?rest503; (case hy503 => (intro w hSw; (try dsimp only at hSw); go_simp <;> with_reducible rfl)); simp only [List.getElem_toArray, List.getElem_cons_succ, List.getElem_cons_zero, Act.put, List.setIfInBounds_toArray, List.set_cons_zero, List.set_cons_succ]); (refine' wpAnyH_take (i := 2) (v := _) rfl (by kernel_rfl) (by kernel_rfl) (by kernel_rfl) (fun _ _ _ h => h) (Or.inl ⟨by rfl, ?hy504⟩) (by assumption) ?rest504; (case hy504 => (intro w hSw; (try dsimp only at hSw); go_simp <;> with_reducible rfl)); simp only [List.getElem_toArray, List.getElem_cons_succ, List.getElem_cons_zero, Act.put, List.setIfInBounds_toArray, List.set_cons_zero, List.set_cons_succ]); (refine' wpAnyH_take (i := 3) (v := _) rfl (by kernel_rfl) (by kernel_rfl) (by kernel_rfl) (fun _ _ _ h => h) (Or.inl ⟨by rfl, ?hy505⟩) (by assumption) ?rest505; (case hy505 => (intro w hSw; (try dsimp only at hSw); go_simp <;> with_reducible rfl)); simp only [List.getElem_toArray, List.getElem_cons_succ, List.getElem_cons_zero, Act.put, List.setIfInBounds_toArray, List.set_cons_zero, List.set_cons_succ]))
        ((refine' wpAnyH_take (i := 5) (v := _) rfl (by kernel_rfl) (by kernel_rfl) (by kernel_rfl) (fun _ _ _ h => h) (Or.inl ⟨by rfl, ?hy506⟩) (by assumption) ?rest506; (case hy506 => (intro w hSw; (try dsimp only at hSw); go_simp <;> with_reducible rfl)); simp only [List.getElem_toArray, List.getElem_cons_succ, List.getElem_cons_zero, Act.put, List.setIfInBounds_toArray, List.set_cons_zero, List.set_cons_succ]))
        ((refine' wpAnyH_take (i := 6) (v := _) rfl (by kernel_rfl) (by kernel_rfl) (by kernel_rfl) (fun _ _ _ h => h) (Or.inl ⟨by rfl, ?hy507⟩) (by assumption) ?rest507; (case hy507 => (intro w hSw; obtain ⟨⟨hSw1⟩, ⟨hSw2⟩⟩ := hSw; go_simp <;> with_reducible rfl)); simp only [List.getElem_toArray, List.getElem_cons_succ, List.getElem_cons_zero, Act.put, List.setIfInBounds_toArray, List.set_cons_zero, List.set_cons_succ]))
        refine wpAnyH_ready (rs := [4, 7]) (by kernel_rfl) (by simp) ?_
        refine AllReadyH.cons rfl (fun K hK => ?g4) (AllReadyH.cons rfl (fun K hK => ?g7) AllReadyH.nil)
        case' g4 =>
          rw [if_pos (by rfl)]
          go_simp
          refine hK.out _ _ hHeld0 (fun hHeld1 => ?_)
          clear hK K
          try simp only [List.getElem_toArray, List.getElem_cons_succ, List.getElem_cons_zero, Act.put, List.setIfInBounds_toArray, List.set_cons_zero, List.set_cons_succ]
          refine wpAnyH_ready (rs := [7]) (by kernel_rfl) (by simp) ?_
          refine AllReadyH.cons rfl (fun K hK => ?_) AllReadyH.nil
          rw [if_pos (by rfl)]
          go_simp
          refine hK.out _ _ ⟨(hS.out _ Hca.out.drew).2, box trivial⟩ (fun hHeld2 => ?_)
          clear hK K
          try simp only [List.getElem_toArray, List.getElem_cons_succ, List.getElem_cons_zero, Act.put, List.setIfInBounds_toArray, List.set_cons_zero, List.set_cons_succ]
        case' g7 =>
          rw [if_pos (by rfl)]
          go_simp
          refine hK.out _ _ ⟨(hS.out _ Hca.out.drew).2, box trivial⟩ (fun hHeld1 => ?_)
          clear hK K
          try simp only [List.getElem_toArray, List.getElem_cons_succ, List.getElem_cons_zero, Act.put, List.setIfInBounds_toArray, List.set_cons_zero, List.set_cons_succ]
          have d1' := (hS.out _ Hca.out.drew).1
          refine wpAnyH_ready (rs := [4]) (by kernel_rfl) (by simp) ?_
          refine AllReadyH.cons rfl (fun K hK => ?_) AllReadyH.nil
          rw [if_pos (by rfl)]
          go_simp
          refine hK.out _ _ hHeld1 (fun hHeld2 => ?_)
          clear hK K
          try simp only [List.getElem_toArray, List.getElem_cons_succ, List.getElem_cons_zero, Act.put, List.setIfInBounds_toArray, List.set_cons_zero, List.set_cons_succ]
        all_goals
          refine wpAnyH_ready (rs := [8]) (by kernel_rfl) (by simp) ?_
          refine AllReadyH.cons rfl (fun K hK => ?_) AllReadyH.nil
          rw [if_pos (by rfl)]
          go_simp
          refine Hins.out.mono ?_
          rintro e w5 ⟨v5, rfl, hrow5, hk5, hg5⟩
          have hlen5 : (l.take P ++ x :: l.drop P).length = l.length + 1 := by rw [List.length_append, List.length_cons, List.length_take, List.length_drop]; omega
          obtain ⟨a5, c5, hv5, _⟩ := hrow5.offs
          rw [hlen5] at hv5
          have hown : ∀ k, (Value.slice va l.length vc).ownBlock = some k → k < w.heap.size := fun k hk => (H.out.row.lt k hk).2
          have hA : Calm w3 (w3.alloc (.cells #[.string xg, .string xt, .int .i64 xq, .int .i64 xa] 31)).drew := Hca.out.drew
          have hxb := heap_calm (HC2.out.trans (HC3.out.trans hA)) Hn.out
          have hx5 : w5.heap[w.heap.size]? = some (.cells #[.string xg, .string xt, .int .i64 xq, .int .i64 xa] 31 (0, 0)) := (hk5.block _ (heap_lt hxb) (fun e => Nat.lt_irrefl _ (hown _ e))).trans hxb
          have hob := heap_calm (HwA.out.trans hA) H.out.at_
          have ho5 : w5.heap[o]? = some (.cells #[ptrTo p, .slice va l.length vc] 58 (0, 0)) := (hk5.block _ (heap_lt hob) (fun e => H.out.apart e)).trans hob
          have hok : w.heap.size ≠ o := fun e => by have := heap_lt H.out.at_; omega
          have HO5 := box ho5
          have HX5 := box hx5
          have Hrow5 := box hrow5
          have Hk5 := box hk5
          have Hg5 := box hg5
          have HA := box hA
          have q1 := cell_of ho5 1
          have q2 := free_of ho5 1
          have q3 := heap_lt ho5
          have p0 := cell_of hx5 0
          have p1 := cell_of hx5 1
          have p2 := cell_of hx5 2
          have p3 := cell_of hx5 3
          subst hv5
          clear hrow5 hk5 hg5 hA hxb hx5 hob ho5
          go_wp2_with fail
          refine hK.out _ _ ⟨box ⟨p0, p1, p2, p3⟩, box trivial⟩ (fun hHeld3 => ?_)
          clear hK K
          try simp only [List.getElem_toArray, List.getElem_cons_succ, List.getElem_cons_zero, Act.put, List.setIfInBounds_toArray, List.set_cons_zero, List.set_cons_succ]
          refine wpAnyH_ready (rs := [9]) (by kernel_rfl) (by simp) ?_
          refine AllReadyH.cons rfl (fun K hK => ?_) AllReadyH.nil
          rw [if_pos (by rfl)]
          go_simp
          refine hK.out _ _ hHeld3 (fun hHeld3 => ?_)
          clear hK K
          try simp only [List.getElem_toArray, List.getElem_cons_succ, List.getElem_cons_zero, Act.put, List.setIfInBounds_toArray, List.set_cons_zero, List.set_cons_succ]
          refine wpAnyH_ready (rs := [10]) (by kernel_rfl) (by simp) ?_
          refine AllReadyH.cons rfl (fun K hK => ?_) AllReadyH.nil
          rw [if_pos (by rfl)]
          go_simp
          refine hK.out _ _ hHeld3 (fun hHeld3 => ?_)
          clear hK K
          try simp only [List.getElem_toArray, List.getElem_cons_succ, List.getElem_cons_zero, Act.put, List.setIfInBounds_toArray, List.set_cons_zero, List.set_cons_succ]
          refine wpAnyH_ready (rs := [11]) (by kernel_rfl) (by simp) ?_
          refine AllReadyH.cons rfl (fun K hK => ?_) AllReadyH.nil
          rw [if_pos (by rfl)]
          go_simp
          have hx6 := (heap_set_other (w := w5) hok 1 (.slice a5 (l.length + 1) c5)).trans HX5.out
          refine hK.out _ _ ⟨box ⟨cell_of hx6 0, cell_of hx6 1, cell_of hx6 2, cell_of hx6 3⟩, box trivial⟩ (fun hHeld4 => ?_)
          clear hK K
          try simp only [List.getElem_toArray, List.getElem_cons_succ, List.getElem_cons_zero, Act.put, List.setIfInBounds_toArray, List.set_cons_zero, List.set_cons_succ]
          refine wpAnyH_done (by kernel_rfl) ?_ _
          go_wp2_with fail
          go_ret
          have hL := (Hs.out 0 Hcode2.out).1 rfl
          refine ⟨.slice a5 (l.length + 1) c5, by rw [Hcode2.out]; rfl, ?_, ?_, fun k hk => ?_⟩
          · rw [hL, Hset.out]
            have hrow6 : offRow B (w5.setCell ⟨o, 1, none⟩ (.slice a5 (l.length + 1) c5)) (.slice a5 (l.length + 1) c5) (l.take P ++ x :: l.drop P) := row_same Hrow5.out (fun g hg => heap_set_other (fun e => by
              subst e
              obtain ⟨cur, hcur⟩ := own_row Hrow5.out hg
              rw [HO5.out] at hcur
              simp only [Option.some.injEq, Obj.cells.injEq] at hcur
              exact absurd hcur.2.1 (by decide)) 1 _)
            refine ⟨heap_set HO5.out 1 _, hrow6, by rw [hlen5]; omega, by rw [← Hset.out]; exact H.out.rising.set x, fun y hy => ?_⟩
            rw [← Hset.out] at hy
            rcases setO_mem hy with rfl | hy
            · exact Hr.out
            · exact H.out.ok y hy
          · exact ((Keeps.of_calm (F := fun b => b = o ∨ (Value.slice va l.length vc).ownBlock = some b) (HwA.out.trans HA.out)).trans' (Hk5.out.mono (fun b _ hb => .inr hb))).setCell (p := ⟨o, 1, none⟩) (.inl (.inl rfl)) _
          · rcases Hg5.out k hk with h1 | h1
            · exact .inl h1
            · exact .inr (Nat.le_trans (HwA.out.trans HA.out).size h1)
    · have Hcode2 := box (show setC l x = 0 by rw [Hcode.out]; simp)
      clear Hcode
      go_enter Tryz.func9, Tryz.ntmps9
      go_wp2_with fail
      refine (hright.out _).mono ?_
      rintro e w2 ⟨rfl, hc2⟩
      have HC2 := box hc2
      obtain ⟨d1, m0, m1, m2, m3⟩ := hcells.out w2 hc2
      have olt2 := Nat.lt_of_lt_of_le olt hc2.size
      have nlt2 := Nat.lt_of_lt_of_le nlt hc2.size
      clear hc2 c0 c1 n0 n1 n2 n3 olt nlt
      go_upto_region 6 with fail
      go_region_held3 (fun w' => w'.cell? ⟨o, 1, none⟩ = some (.slice va l.length vc) ∧ w'.cell? ⟨w.heap.size, 0, none⟩ = some (.string xg) ∧ w'.cell? ⟨w.heap.size, 1, none⟩ = some (.string xt) ∧ w'.cell? ⟨w.heap.size, 2, none⟩ = some (.int .i64 xq) ∧ w'.cell? ⟨w.heap.size, 3, none⟩ = some (.int .i64 xa)) (first | go_keep | exact hcells.out _ (HC2.out.trans (by (repeat' (first | (with_reducible exact Calm.refl _) | (with_reducible assumption) | (with_reducible refine Calm.drew ?_) | (with_reducible refine Calm.alloc ?_ _) | (with_reducible refine Calm.trans ?_ (by assumption))))))) ((go_at_call 24; refine (hsearch.out _ (HC0.out.trans (HC2.out.trans (by (repeat' (first | (with_reducible exact Calm.refl _) | (with_reducible assumption) | (with_reducible refine Calm.drew ?_) | (with_reducible refine Calm.alloc ?_ _) | (with_reducible refine Calm.trans ?_ (by assumption)))))))).mono ?_; rintro e w3 ⟨rfl, hc3⟩))
      have HC3 := box (show Calm w2 w3 by (repeat' (first | (with_reducible exact Calm.refl _) | (with_reducible assumption) | (with_reducible refine Calm.drew ?_) | (with_reducible refine Calm.alloc ?_ _) | (with_reducible refine Calm.trans ?_ (by assumption)))))
      clear hc3 hsearch hright d1 m0 m1 m2 m3 olt2 nlt2
      obtain ⟨d1, m0, m1, m2, m3⟩ := hcells.out w3 (HC2.out.trans HC3.out)
      have hr3 := own_calm H.out.row (HC0.out.trans (HC2.out.trans HC3.out))
      have hplace := set_place l x H.out.rising
      have hlt : placeO l x < l.length ∧ ordO l[placeO l x]! x = 0 := by
        have h5 := hplace.2.2.2.2
        by_cases hq : placeO l x < l.length ∧ ordO l[placeO l x]! x = 0
        · exact hq
        · rw [if_neg hq] at h5
          have := Hfo.out
          rw [h5] at this
          cases this
      have hset : setO l x = l.take (placeO l x) ++ x :: l.drop (placeO l x + 1) := by
        have h4 := hplace.2.2.2.1
        rw [if_pos hlt] at h4
        exact h4
      rcases hr3.2 with ⟨_, hn⟩ | ⟨g, cap, cur, hv, hbg, hg, hnc, hcm, hcs, htk⟩
      · omega
      cases hv
      obtain ⟨P, hP⟩ : ∃ P, placeO l x = P := ⟨_, rfl⟩
      rw [hP] at hlt hset
      have hPn := hlt.1
      have hk : ∀ j, j < 4 → P * 4 + j < cur.size := fun j hj => by rw [hcs]; omega
      have e0 : w3.cell? ⟨g, P * 4, none⟩ = some cur[P * 4]! := by rw [cell_of hg, getElem!_pos cur (P * 4) (hk 0 (by omega))]; exact Array.getElem?_eq_getElem (hk 0 (by omega))
      have e1 : w3.cell? ⟨g, P * 4 + 1, none⟩ = some cur[P * 4 + 1]! := by rw [cell_of hg, getElem!_pos cur (P * 4 + 1) (hk 1 (by omega))]; exact Array.getElem?_eq_getElem (hk 1 (by omega))
      have e2 : w3.cell? ⟨g, P * 4 + 2, none⟩ = some cur[P * 4 + 2]! := by rw [cell_of hg, getElem!_pos cur (P * 4 + 2) (hk 2 (by omega))]; exact Array.getElem?_eq_getElem (hk 2 (by omega))
      have e3 : w3.cell? ⟨g, P * 4 + 3, none⟩ = some cur[P * 4 + 3]! := by rw [cell_of hg, getElem!_pos cur (P * 4 + 3) (hk 3 (by omega))]; exact Array.getElem?_eq_getElem (hk 3 (by omega))
      have f0 := free_of hg (P * 4)
      have f1 := free_of hg (P * 4 + 1)
      have f2 := free_of hg (P * 4 + 2)
      have f3 := free_of hg (P * 4 + 3)
      have glt := heap_lt hg
      have olt3 := heap_lt (heap_calm (HC0.out.trans (HC2.out.trans HC3.out)) H.out.at_)
      have nlt3 := heap_lt (heap_calm (HC2.out.trans HC3.out) Hn.out)
      rw [hP]
      go_upto_region 9 with fail
      clear hW1
      go_region
      go_wp2_with fail
      go_ret
      have hcw : Calm w w3 := HC0.out.trans (HC2.out.trans HC3.out)
      have hL := (Hs.out 0 Hcode2.out).1 rfl
      have hat := heap_calm hcw H.out.at_
      have hog : o ≠ g := fun e => by
        rw [e, hg] at hat
        simp only [Option.some.injEq, Obj.cells.injEq] at hat
        exact absurd hat.2.1 (by decide)
      refine ⟨.slice (some ⟨g, 0, none⟩) l.length vc, by rw [Hcode2.out]; rfl, ?_, ?_, fun k hk => .inl hk⟩
      · rw [hL]
        have hrow : offRow B (set4 w3 g (P * 4) x) (.slice (some ⟨g, 0, none⟩) l.length vc) (setO l x) := by rw [hset]; exact set4_row hr3 hPn x
        have hset2 : set4 w3 g (P * 4) x = (((w3.setCell ⟨g, P * 4, none⟩ (.string xg)).setCell ⟨g, P * 4 + 1, none⟩ (.string xt)).setCell ⟨g, P * 4 + 2, none⟩ (.int .i64 xq)).setCell ⟨g, P * 4 + 3, none⟩ (.int .i64 xa) := by rw [← hx]; rfl
        rw [hset2] at hrow
        have hlen := set_length l x H.out.rising
        refine ⟨?_, hrow, ?_, H.out.rising.set x, fun y hy => ?_⟩
        · exact ((heap_set_other hog _ _).trans ((heap_set_other hog _ _).trans ((heap_set_other hog _ _).trans (heap_set_other hog _ _)))).trans hat
        · have := Hfo.out
          rw [if_neg (by intro e; rw [e] at this; cases this)] at hlen
          rw [hlen]; exact hfew
        · rcases setO_mem hy with rfl | hy
          · exact Hr.out
          · exact H.out.ok y hy
      · have := set4_keeps (Keeps.of_calm (F := fun b => b = o ∨ (Value.slice (some ⟨g, 0, none⟩) l.length vc).ownBlock = some b) hcw) (g := g) (.inl (.inr rfl)) (P * 4) x
        rw [← hx] at this
        exact this.drew
  · have Hcode2 := box (show setC l x = r by rw [Hcode.out, if_pos hr0])
    have hne : (r == 0) = false := beq_eq_false_iff_ne.2 hr0
    have hne2 : (r != 0) = true := by simp [bne, hne]
    clear Hcode
    go_enter Tryz.func9, Tryz.ntmps9
    go_wp2_with fail
    refine (hright.out _).mono ?_
    rintro e w2 ⟨rfl, hc2⟩
    have HC2 := box hc2
    clear hc2
    go_wp2_with fail
    go_ret
    refine ⟨.slice va l.length vc, by rw [Hcode2.out]; rfl, ?_, Keeps.of_calm (HC0.out.trans HC2.out), fun k hk => .inl hk⟩
    rw [(Hs.out r Hcode2.out).2 hr0]
    exact H.out.calm (HC0.out.trans HC2.out)
end Go.Proofs.YtafdfmdcnniccaaGreat.ofs

/- Layer 14: Get, All. -/
namespace Go.Proofs.YtafdfmdcnniccaaGreat.ofs
open Go.ChangeShapes Go.WideShapes Go.ChangeAt Go.RowKit
open Go.Proofs.YtafdfmdcnniccaaGreat.dk Go.Proofs.YtafdfmdcnniccaaGreat.nm

/-- What Get tells. -/
def getO (l : List OffS) (x : OffS) : Int := match findO l x with
  | some y => y.at_
  | none => 0
section
variable {B o p : Nat} {v : Value} {l : List OffS}
set_option maxRecDepth 100000 in
set_option maxHeartbeats 4000000 in
theorem Get_any (xg xt : ByteArray) (xq : Int) (w : World) (h : Ofs B w o p v l) :
    Calls Tryz.prog 10 #[ptrTo o, .string xg, .string xt, .int .i64 xq] w fun e w' => e = .returned (.int .i64 (getO l ⟨xg, xt, xq, 0⟩)) ∧ Calm w w' := by
  have hfew := h.few
  have hsearch := (show Calls Tryz.prog _ #[v, .agg #[.string xg, .string xt, .int .i64 xq, .int .i64 0], .func (.func 25) #[] #[]] w _ from Search_any v l ⟨xg, xt, xq, 0⟩ w h.row.offs (by omega) h.rising)
  have hplace := set_place l ⟨xg, xt, xq, 0⟩ h.rising
  have hfind := hplace.2.2.2.2
  clear hplace
  obtain ⟨a, cap, rfl, _, hc⟩ := h.row.offs
  have Hc := box hc
  have c1 := cell_of h.at_ 1
  have olt := heap_lt h.at_
  have H := box h
  obtain ⟨x, hx⟩ : ∃ x : OffS, (⟨xg, xt, xq, 0⟩ : OffS) = x := ⟨_, rfl⟩
  rw [hx] at hsearch hfind ⊢
  obtain ⟨P, hP⟩ : ∃ P, placeO l x = P := ⟨_, rfl⟩
  rw [hP] at hsearch hfind
  clear h hc hP hx
  have hsearch := box hsearch
  by_cases hq : P < l.length ∧ ordO l[P]! x = 0
  · rw [if_pos hq] at hfind
    have hPn := hq.1
    have hgm : l[P]! = l[P] := getElem!_pos l P hPn
    rw [hgm] at hfind
    obtain ⟨b, off, rfl, hb, d0, d1, d2, d3⟩ := Hc.out P hPn
    have hg : getO l x = l[P].at_ := by unfold getO; rw [hfind]
    rw [hg]
    rw [hfind] at hsearch
    obtain ⟨⟨yg, yt, yq, ya⟩, hy⟩ : ∃ y, l[P] = y := ⟨_, rfl⟩
    simp only [hy] at d0 d1 d2 d3 ⊢
    have D3 := box d3
    clear hq hfind hgm hg hy d0 d1 d2 d3
    go_enter Tryz.func10, Tryz.ntmps10
    go_wp2_with fail
    refine hsearch.out.mono ?_
    rintro e w1 ⟨rfl, hc1⟩
    have HC1 := box hc1
    have d1 := cell_of (heap_calm hc1 H.out.at_) 1
    have olt1 := Nat.lt_of_lt_of_le olt hc1.size
    have blt1 := Nat.lt_of_lt_of_le hb hc1.size
    have e3 := (hc1.cell (p := ⟨b, off + P * 4 + 3, none⟩) hb).trans D3.out
    clear hc1 c1 olt
    go_wp2_with fail
    go_ret
    exact ⟨rfl, HC1.out⟩
  · rw [if_neg hq] at hfind
    have hg : getO l x = 0 := by unfold getO; rw [hfind]
    rw [hg]
    rw [hfind] at hsearch
    clear hq hfind hg
    go_enter Tryz.func10, Tryz.ntmps10
    go_wp2_with fail
    refine hsearch.out.mono ?_
    rintro e w1 ⟨rfl, hc1⟩
    have HC1 := box hc1
    clear hc1 c1 olt
    go_wp2_with fail
    go_ret
    exact ⟨rfl, HC1.out⟩
theorem oAll_any (w : World) (h : Ofs B w o p v l) :
    Calls Tryz.prog 13 #[ptrTo o] w fun e w' => ∃ v', e = .returned v' ∧ offRow w.heap.size w' v' l ∧ Calm w w' := by
  have hcl := box (Clone_any v l w h.row.offs (by have := h.few; omega))
  have c1 := cell_of h.at_ 1
  have olt := heap_lt h.at_
  clear h
  go_enter Tryz.func13, Tryz.ntmps13
  go_wp2_with fail
  refine hcl.out.mono ?_
  rintro e w1 ⟨v', rfl, hr, hc⟩
  have Hr := box hr
  have Hc := box hc
  clear hr hc hcl
  go_wp2_with fail
  go_ret
  exact ⟨_, rfl, Hr.out, Hc.out⟩
end
end Go.Proofs.YtafdfmdcnniccaaGreat.ofs
