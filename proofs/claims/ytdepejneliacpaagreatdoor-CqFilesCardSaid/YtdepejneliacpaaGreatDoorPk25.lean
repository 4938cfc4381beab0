/- Maps whose keys are of any kind that reads as a key (structs too): what a block holds, what each operation makes of it, ranging. -/
import Derived.Test.YtdepejneliacpaaGreatDoorRows
import Derived.WalkKit
import Derived.ProofKit
import Derived.OpenShut
import Derived.Handy
import Derived.Deep.LoopGhost
import Derived.Lib.Hide
import Derived.Lib.Strings
import Derived.SizedLaws
import Derived.Maps.Own
import Derived.Maps.OwnOps
import Derived.Maps.OwnSet
import Derived.Maps.RangeWalk
import Derived.Deep.QuietTactic
import Derived.BigQuiet
import Derived.Deep.RegionHeld3
import Derived.Lib.ConvBytes
import Derived.Lib.AppendZeros
import Derived.Lib.AppendZerosOnto
import Derived.Lib.LazyBuf
import Derived.Shelf.Abstract
import Derived.LaidEql
import Derived.Lib.SliceRun
import Derived.StillTailTactics
import Derived.Deep.Slices
import Derived.Lib.Atoi
import Derived.Lib.ItoaNum
import Derived.Lib.SlTrimSet
import Derived.Shelf.SlIter.Nil
import Derived.Ground.GgzProg
import Derived.Shelf.SortM.Plain
import Derived.Shelf.SortM.SortNone
import Derived.Ground.SlgmProg
import Derived.Shelf.SlicesE.DeleteFunc
import Derived.Ground.SlgfProg
import Derived.Test.YtdepejneliacpaaGreatDoorProg
import Derived.Shelf.Strings.Builder1
import Derived.Shelf.Strings.Builder2
import Derived.Shelf.Strings.Trim
import Derived.Shelf.Small.Utf8
import Derived.Shelf.Small.Bits
import Derived.Shelf.Small.Strs
import Derived.Shelf.Small.Wraps
import Derived.Shelf.Strings.BuilderF
import Derived.Shelf.Strings.BuilderK
import Derived.Shelf.Strings.Builder2Cap
import Derived.Shelf.Strconv.Atoi
import Derived.Shelf.Strconv.Itoa0
import Derived.Shelf.Strconv.Itoa1
import Derived.Shelf.LaysM
import Derived.Shelf.Strconv.Itoa2
import Derived.Shelf.Strconv.Itoa3
import Derived.Shelf.Strings.Search1
import Derived.Shelf.Sort.Plain
import Derived.Shelf.GgClosure.StringsIndexFunc
import Derived.Ground.GgwProg
import Derived.Shelf.GgClosure.StringsIndexFuncTop
import Derived.Shelf.GgClosure.StringsRunes
import Derived.Shelf.Strings.Prefix
import Derived.Shelf.Strings.Runes
import Derived.Shelf.Strings.AsciiSet
import Derived.Shelf.Bits.Mul64
import Derived.Shelf.Strings.Repeat
import Derived.Shelf.Unicode.DecodeSlow
import Derived.Shelf.Unicode.DecodeAny
import Derived.Shelf.Unicode.DecodeLast
import Derived.Shelf.Strings.BuilderCap
import Derived.Shelf.Slices.Equal
import Derived.Ground.Names2Prog
import Derived.Shelf.Slices.Clone
import Derived.Shelf.Slices.CompactS
import Derived.Shelf.Slices.SearchI
import Derived.Shelf.Slices.Cells
import Derived.Shelf.Slices.In.SortNone
import Derived.Shelf.Slices.Empties2
import Derived.Ground.SlgnProg
import Derived.Shelf.SlicesE.Equal
import Derived.Shelf.SlicesE.Compact
import Derived.Shelf.SlicesE.Clone
import Derived.Shelf.SlicesE.IndexFunc
import Derived.Shelf.Strings.SlTrimAscii
import Derived.Lib.Repeat
import Derived.Lib.LaidTab
import Derived.Deep.RegionLaw
import Derived.Deep.RegionWith
import Derived.Lib.AtoiErrMem
import Derived.Laws.MakeOwn
import Derived.Lib.Builder
import Derived.Lib.AppendStr
import Derived.Lib.DecodeN
import Derived.Maps.Keyed
import Derived.Test.YtdepejneliacpaaGreatDoorPk24
namespace Go.Proofs.YtdepejneliacpaaGreatDoor
open Go.RowKit Go.MapKept Go.ChangeMaps Go.Maps

/-- Block b holds a map of just these pairs; its keys are of type k. -/
def MapOf (P : Program) (k : TypeId) (w : World) (b : Nat) (m : List (Value × Value)) : Prop :=
  ∃ es clock, w.heap[b]? = some (.map es clock) ∧ Stamped es clock ∧ es.toList.map (fun e => (e.key, e.val)) = m ∧ ∀ x ∈ es.toList, ∃ l, keyOf P k x.key = some l

section
variable {P : Program} {w : World} {t k e : TypeId} {b r : Nat} {m left : List (Value × Value)}

theorem MapOf.lt (h : MapOf P k w b m) : b < w.heap.size := by obtain ⟨es, c, hb, _⟩ := h; exact heap_lt hb
theorem MapOf.same {w' : World} (h : MapOf P k w b m) (hc : w'.heap[b]? = w.heap[b]?) : MapOf P k w' b m := by
  obtain ⟨es, c, hb, r⟩ := h; exact ⟨es, c, hc.trans hb, r⟩
theorem MapOf.calm {w' : World} (h : MapOf P k w b m) (hc : Calm w w') : MapOf P k w' b m := h.same (hc.block _ h.lt)
theorem MapOf.nodup (h : MapOf P k w b m) : (m.map (·.1)).Nodup := by
  obtain ⟨es, c, _, hs, rfl, _⟩ := h
  have := hs.2.2
  simpa [List.map_map, Function.comp_def] using this
theorem MapOf.made (w : World) : MapOf P k (w.alloc (.map #[] 0)) w.heap.size [] :=
  ⟨#[], 0, heap_new w _, stamped_empty 0, rfl, by simp⟩
/-- 'm[k]', there. -/
theorem MapOf.hit (h : MapOf P k w b m) (K : Keyed P k) (ht : P.underlying t = some (.map k e)) {key v : Value} (hkey : ∃ l, keyOf P k key = some l) (hm : (key, v) ∈ m) (ok : Bool) :
    (Instr.lookup t (.map (some b)) key ok).run P w = .ok (if ok then .tuple #[v, .bool true] else v) w := by
  obtain ⟨es, c, hb, hs, rfl, hks⟩ := h
  obtain ⟨y, hy, he⟩ := List.mem_map.1 hm
  simp only [Prod.mk.injEq] at he
  obtain ⟨rfl, rfl⟩ := he
  obtain ⟨l, hl⟩ := hkey
  rcases K.find w hl es.toList hks with ⟨h1, h2⟩ | ⟨j, e0, h1, h2, h3⟩
  · exact absurd rfl (h2 y hy)
  · have h0 : e0 ∈ es.toList := List.mem_of_getElem? h2
    have : e0 = y := by
      have hn := hs.2.2
      exact nodup_inj hn h0 hy h3
    subst this
    cases ok <;> simp [Instr.lookup, run_underlying ht, MapKept.run_getObj_map hb, K.check w _ hl, h1, Result.andThen]
/-- 'm[k]', not there. -/
theorem MapOf.miss (h : MapOf P k w b m) (K : Keyed P k) (ht : P.underlying t = some (.map k e)) {key z : Value} (hkey : ∃ l, keyOf P k key = some l) (hz : (zeroValue e).run P w = .ok z w) (hm : ∀ x ∈ m, x.1 ≠ key) (ok : Bool) :
    (Instr.lookup t (.map (some b)) key ok).run P w = .ok (if ok then .tuple #[z, .bool false] else z) w := by
  obtain ⟨es, c, hb, hs, rfl, hks⟩ := h
  obtain ⟨l, hl⟩ := hkey
  rcases K.find w hl es.toList hks with ⟨h1, h2⟩ | ⟨j, e0, h1, h2, h3⟩
  · cases ok <;> simp [Instr.lookup, run_underlying ht, MapKept.run_getObj_map hb, K.check w _ hl, h1, Result.andThen, hz]
  · exact absurd h3 (hm (e0.key, e0.val) (List.mem_map.2 ⟨e0, List.mem_of_getElem? h2, rfl⟩))
/-- 'm[k] = v', not there before. -/
theorem MapOf.add (h : MapOf P k w b m) (K : Keyed P k) (ht : P.underlying t = some (.map k e)) {key : Value} (v : Value) (hkey : ∃ l, keyOf P k key = some l) (hm : ∀ x ∈ m, x.1 ≠ key) :
    ∃ o, (Instr.mapUpdate t (.map (some b)) key v).run P w = .ok () (setBlock w b o) ∧ MapOf P k (setBlock w b o) b (m ++ [(key, v)]) := by
  obtain ⟨es, c, hb, hs, rfl, hks⟩ := h
  have hkey0 := hkey
  obtain ⟨l, hl⟩ := hkey
  rcases K.find w hl es.toList hks with ⟨h1, h2⟩ | ⟨j, e0, h1, h2, h3⟩
  · refine ⟨.map (es.push ⟨key, v, c⟩) (c + 1), ?_, ⟨es.push ⟨key, v, c⟩, c + 1, heap_setBlock_same hb _, stamped_push hs h2, by simp, ?_⟩⟩
    · simp [Instr.mapUpdate, run_underlying ht, MapKept.run_getObj_map hb, K.check w _ hl, h1, MapKept.run_setObj_map _ hb, Result.andThen, setBlock]
    · intro x hx
      simp only [Array.toList_push, List.mem_append, List.mem_singleton] at hx
      rcases hx with hx | rfl
      · exact hks x hx
      · exact hkey0
  · exact absurd h3 (hm (e0.key, e0.val) (List.mem_map.2 ⟨e0, List.mem_of_getElem? h2, rfl⟩))

/-- 'for k, v := range m' under way: block r walks over the map of block b; 'left' is still to come. -/
def RangeOf (P : Program) (k : TypeId) (w : World) (b r : Nat) (m left : List (Value × Value)) : Prop :=
  ∃ es clock since seen c0, w.heap[b]? = some (.map es clock) ∧ Stamped es clock ∧ es.toList.map (fun e => (e.key, e.val)) = m ∧ (∀ x ∈ es.toList, ∃ l, keyOf P k x.key = some l) ∧
    w.heap[r]? = some (.mapIter (some b) since seen c0) ∧ (∀ x ∈ es.toList, x.born < since) ∧ since ≤ c0 ∧ since ≤ clock ∧
    left = (es.toList.filter fun e => !seen.contains e.born).map fun e => (e.key, e.val)
theorem RangeOf.map (h : RangeOf P k w b r m left) : MapOf P k w b m := by
  obtain ⟨es, clock, since, seen, c0, h1, h2, h3, h4, _⟩ := h
  exact ⟨es, clock, h1, h2, h3, h4⟩
theorem RangeOf.lt (h : RangeOf P k w b r m left) : r < w.heap.size := by
  obtain ⟨es, clock, since, seen, c0, h1, h2, h3, h4, h5, _⟩ := h
  exact heap_lt h5
theorem RangeOf.same {w' : World} (h : RangeOf P k w b r m left) (hb : w'.heap[b]? = w.heap[b]?) (hr : w'.heap[r]? = w.heap[r]?) : RangeOf P k w' b r m left := by
  obtain ⟨es, clock, since, seen, c0, h1, h2, h3, h4, h5, h6⟩ := h
  exact ⟨es, clock, since, seen, c0, hb.trans h1, h2, h3, h4, hr.trans h5, h6⟩
theorem RangeOf.calm {w' : World} (h : RangeOf P k w b r m left) (hc : Calm w w') : RangeOf P k w' b r m left :=
  h.same (hc.block _ h.map.lt) (hc.block _ h.lt)
theorem RangeOf.left_eq (h : RangeOf P k w b r m left) : w.rangeLeft b r = left.length := by
  obtain ⟨es, clock, since, seen, c0, h1, h2, h3, h4, h5, h6, h7, h8, rfl⟩ := h
  simp only [World.rangeLeft, h1, h5, leftOf, List.length_map]
  rw [← Array.toList_filter, Array.length_toList]
theorem MapOf.range (h : MapOf P k w b m) (ht : P.underlying t = some (.map k e)) :
    ∃ o, (Instr.range t (.map (some b))).run P w = .ok (.pointer (some ⟨w.heap.size, 0, none⟩)) (w.alloc o) ∧ RangeOf P k (w.alloc o) b w.heap.size m m := by
  obtain ⟨es, clock, h1, h2, h3, h4⟩ := h
  refine ⟨_, run_range_map w t k e b es clock ht h1, ⟨es, clock, clock, #[], clock, heap_old w _ h1, h2, h3, h4, heap_new w _, h2.1, Nat.le_refl _, Nat.le_refl _, ?_⟩⟩
  rw [← h3]; simp only [Array.contains_empty, Bool.not_false]; rw [List.filter_eq_self.2 (fun _ _ => rfl)]
theorem RangeOf.next (h : RangeOf P k w b r m left) (ty : TypeId) :
    (left = [] ∧ (Instr.next (.pointer (some ⟨r, 0, none⟩)) false ty).run P w = .ok (.tuple #[.bool false]) w) ∨
    ∃ l1 x l2 w', left = l1 ++ x :: l2 ∧ (Instr.next (.pointer (some ⟨r, 0, none⟩)) false ty).run P w = .ok (.tuple #[.bool true, x.1, x.2]) w' ∧
      RangeOf P k w' b r m (l1 ++ l2) ∧ (Instr.entry (.pointer (some ⟨r, 0, none⟩))).run P w' = .ok (.tuple #[x.1, x.2]) w' ∧ Keeps (· = r) w w' ∧ w'.heap.size = w.heap.size ∧ x ∈ m := by
  obtain ⟨es, clock, since, seen, c0, h1, h2, h3, h4, h5, h6, h7, h8, rfl⟩ := h
  rcases run_next_at (P := P) w ty r b since c0 seen es clock h5 h1 h6 h7 with ⟨h0, hrun⟩ | ⟨e, he, w1, hal, hrun⟩
  · refine .inl ⟨?_, hrun⟩
    unfold leftOf at h0
    rw [← Array.length_toList, Array.toList_filter] at h0
    rw [List.eq_nil_of_length_eq_zero h0]; rfl
  · obtain ⟨hem, hes⟩ := mem_left he
    obtain ⟨l1, l2, e1, e2⟩ := filter_split (·.born) (fun e => !seen.contains e.born) es.toList h2.2.1 e hem (by simp only [hes]; rfl)
    have hr1 : w1.heap[r]? = some (.mapIter (some b) since seen c0) := by rcases hal with rfl | rfl <;> exact h5
    have hb1 : w1.heap[b]? = some (.map es clock) := by rcases hal with rfl | rfl <;> exact h1
    have hne : b ≠ r := by intro e0; rw [e0, h5] at h1; cases h1
    have hb' : (setBlock w1 r (.mapIter (some b) since (seen.push e.born) clock)).heap[b]? = some (.map es clock) := by rw [heap_put_other _ _ hne]; exact hb1
    have hr' : (setBlock w1 r (.mapIter (some b) since (seen.push e.born) clock)).heap[r]? = some (.mapIter (some b) since (seen.push e.born) clock) := by
      have hlt := heap_lt hr1
      simp [setBlock, hlt]
    refine .inr ⟨l1.map (fun e => (e.key, e.val)), (e.key, e.val), l2.map (fun e => (e.key, e.val)), _, by rw [e1]; simp, hrun, ⟨es, clock, since, seen.push e.born, clock, hb', h2, h3, h4, hr', h6, h8, h8, ?_⟩, run_entry_at _ r b since seen es clock e hr' hb' hem h2.2.1, ?_, ?_, ?_⟩
    · rw [← List.map_append, ← e2]
      congr 1
      exact List.filter_congr (fun y _ => by rw [contains_push]; simp [Bool.not_or])
    · rcases hal with rfl | rfl
      · exact (Keeps.refl (· = r) _).setObj (.inl rfl) _
      · exact ((Keeps.refl (· = r) w).drew).setObj (.inl rfl) _
    · rcases hal with rfl | rfl <;> simp [setBlock]
    · rw [← h3]; exact List.mem_map.2 ⟨e, hem, rfl⟩
/-- 'range m' AT THE OPERATION. -/
theorem wpList_range_of {ops : Array Oper} {rest : List Oper} {o : Oper} {a : Act} {Q : Exit → Act → World → Prop} (hg : o.guard = none) (x : Operand) (hop : o.op = Op.range t x) (ht : P.underlying t = some (.map k e))
    (hm : a.eval x = .map (some b)) (h : MapOf P k w b m)
    (hK : ∀ w', RangeOf P k w' b w.heap.size m m → Calm w w' → w'.heap.size = w.heap.size + 1 → wpList P ops Q rest (a.put o.dst (.pointer (some ⟨w.heap.size, 0, none⟩))) w') :
    wpList P ops Q (o :: rest) a w := by
  refine wpList_plain hg fun K' hK' => ?_
  obtain ⟨ob, hrun, hr⟩ := h.range (P := P) ht
  unfold Oper.wp
  simp [execOp, hop, hm, hrun, Result.andThen]
  exact hK' _ _ (hK _ hr ((Calm.refl w).alloc _) (by simp))
/-- THE STEP AT THE OPERATION. -/
theorem wpList_next_of {ops : Array Oper} {rest : List Oper} {o : Oper} {a : Act} {Q : Exit → Act → World → Prop} (hg : o.guard = none) (it : Operand) (hop : o.op = Op.next it false)
    (hit : a.eval it = .pointer (some ⟨r, 0, none⟩)) (h : RangeOf P k w b r m left)
    (hDone : left = [] → wpList P ops Q rest (a.put o.dst (.tuple #[.bool false])) w)
    (hMore : ∀ l1 x1 x2 l2 w', left = l1 ++ (x1, x2) :: l2 → RangeOf P k w' b r m (l1 ++ l2) → (Instr.entry (.pointer (some ⟨r, 0, none⟩))).run P w' = .ok (.tuple #[x1, x2]) w' → Keeps (· = r) w w' → w'.heap.size = w.heap.size → (x1, x2) ∈ m →
      wpList P ops Q rest (a.put o.dst (.tuple #[.bool true, x1, x2])) w') :
    wpList P ops Q (o :: rest) a w := by
  refine wpList_plain hg fun K' hK' => ?_
  unfold Oper.wp
  rcases h.next (P := P) o.type with ⟨h0, hrun⟩ | ⟨l1, x, l2, w', hl, hrun, hr, hen, hk, hs, hm⟩
  · simp [execOp, hop, hit, hrun, Result.andThen]
    exact hK' _ _ (hDone h0)
  · simp [execOp, hop, hit, hrun, Result.andThen]
    exact hK' _ _ (hMore l1 x.1 x.2 l2 w' hl hr hen hk hs hm)
end
end Go.Proofs.YtdepejneliacpaaGreatDoor
