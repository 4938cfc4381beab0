/- Maps: what a block holds, as a list of pairs, and what each operation makes of it. -/
import Derived.Test.YtofffmnkoelifaaRows
import Derived.WalkKit
import Derived.ProofKit
import Derived.OpenShut
import Derived.Handy
import Derived.Deep.LoopGhost
import Derived.Lib.Hide
import Derived.Lib.Strings
import Derived.SizedLaws
import Derived.Maps.Own
import Derived.Maps.OwnOps
import Derived.Maps.OwnSet
import Derived.Test.YtofffmnkoelifaaPk1
namespace Go.Proofs.Ytofffmnkoelifaa
open Go.RowKit Go.MapKept Go.ChangeMaps

/-- Block b holds a map of just these pairs (in the order in which its keys came); its keys are of a plain kind d. -/
def MapIs (w : World) (b : Nat) (d : TypeDesc) (m : List (Value × Value)) : Prop :=
  ∃ es clock, w.heap[b]? = some (.map es clock) ∧ Stamped es clock ∧ es.toList.map (fun e => (e.key, e.val)) = m ∧ ∀ x ∈ es.toList, IsKey d x.key

section
variable {P : Program} {w : World} {t k e : TypeId} {b : Nat} {d : TypeDesc} {m : List (Value × Value)}

theorem MapIs.lt (h : MapIs w b d m) : b < w.heap.size := by obtain ⟨es, c, hb, _⟩ := h; exact heap_lt hb
theorem MapIs.calm {w' : World} (h : MapIs w b d m) (hc : Calm w w') : MapIs w' b d m := by
  obtain ⟨es, c, hb, r⟩ := h; exact ⟨es, c, heap_calm hc hb, r⟩
theorem MapIs.same {w' : World} (h : MapIs w b d m) (hc : w'.heap[b]? = w.heap[b]?) : MapIs w' b d m := by
  obtain ⟨es, c, hb, r⟩ := h; exact ⟨es, c, hc.trans hb, r⟩
theorem MapIs.nodup (h : MapIs w b d m) : (m.map (·.1)).Nodup := by
  obtain ⟨es, c, _, hs, rfl, _⟩ := h
  have := hs.2.2
  simpa [List.map_map, Function.comp_def] using this
theorem MapIs.made (w : World) (d : TypeDesc) : MapIs (w.alloc (.map #[] 0)) w.heap.size d [] :=
  ⟨#[], 0, heap_new w _, stamped_empty 0, rfl, by simp⟩
theorem MapIs.keys (h : MapIs w b d m) : ∀ x ∈ m, IsKey d x.1 := by
  obtain ⟨es, c, _, _, rfl, hk⟩ := h
  intro x hx
  obtain ⟨y, hy, rfl⟩ := List.mem_map.1 hx
  exact hk y hy

/-- 'm[k]', there. -/
theorem MapIs.hit (h : MapIs w b d m) (ht : P.underlying t = some (.map k e)) (hk : P.underlying k = some d) {key v : Value} (hkey : IsKey d key) (hm : (key, v) ∈ m) (ok : Bool) :
    (Instr.lookup t (.map (some b)) key ok).run P w = .ok (if ok then .tuple #[v, .bool true] else v) w := by
  obtain ⟨es, c, hb, hs, rfl, hks⟩ := h
  obtain ⟨y, hy, he⟩ := List.mem_map.1 hm
  simp only [Prod.mk.injEq] at he
  obtain ⟨rfl, rfl⟩ := he
  rcases findNow_spec hkey es.toList 0 hks with ⟨h1, h2⟩ | ⟨j, e0, h1, h2, h3⟩
  · exact absurd rfl (h2 y hy)
  · have h0 : e0 ∈ es.toList := List.mem_of_getElem? h2
    have : e0 = y := by
      have hn := hs.2.2
      exact nodup_inj hn h0 hy h3
    subst this
    cases ok <;> simp [Instr.lookup, run_underlying ht, MapKept.run_getObj_map hb, run_checkKey hk hkey, run_findKey hk h1, Result.andThen]

/-- 'm[k]', not there. -/
theorem MapIs.miss (h : MapIs w b d m) (ht : P.underlying t = some (.map k e)) (hk : P.underlying k = some d) {key z : Value} (hkey : IsKey d key) (hz : (zeroValue e).run P w = .ok z w) (hm : ∀ x ∈ m, x.1 ≠ key) (ok : Bool) :
    (Instr.lookup t (.map (some b)) key ok).run P w = .ok (if ok then .tuple #[z, .bool false] else z) w := by
  obtain ⟨es, c, hb, hs, rfl, hks⟩ := h
  rcases findNow_spec hkey es.toList 0 hks with ⟨h1, h2⟩ | ⟨j, e0, h1, h2, h3⟩
  · cases ok <;> simp [Instr.lookup, run_underlying ht, MapKept.run_getObj_map hb, run_checkKey hk hkey, run_findKey hk h1, Result.andThen, hz]
  · exact absurd h3 (hm (e0.key, e0.val) (List.mem_map.2 ⟨e0, List.mem_of_getElem? h2, rfl⟩))

/-- 'm[k] = v', not there before. -/
theorem MapIs.add (h : MapIs w b d m) (ht : P.underlying t = some (.map k e)) (hk : P.underlying k = some d) {key : Value} (v : Value) (hkey : IsKey d key) (hm : ∀ x ∈ m, x.1 ≠ key) :
    ∃ o, (Instr.mapUpdate t (.map (some b)) key v).run P w = .ok () (setBlock w b o) ∧ MapIs (setBlock w b o) b d (m ++ [(key, v)]) := by
  obtain ⟨es, c, hb, hs, rfl, hks⟩ := h
  rcases findNow_spec hkey es.toList 0 hks with ⟨h1, h2⟩ | ⟨j, e0, h1, h2, h3⟩
  · refine ⟨.map (es.push ⟨key, v, c⟩) (c + 1), ?_, ⟨es.push ⟨key, v, c⟩, c + 1, heap_setBlock_same hb _, stamped_push hs h2, by simp, ?_⟩⟩
    · simp [Instr.mapUpdate, run_underlying ht, MapKept.run_getObj_map hb, run_checkKey hk hkey, run_findKey hk h1, MapKept.run_setObj_map _ hb, Result.andThen, setBlock]
    · intro x hx
      simp only [Array.toList_push, List.mem_append, List.mem_singleton] at hx
      rcases hx with hx | rfl
      · exact hks x hx
      · exact hkey
  · exact absurd h3 (hm (e0.key, e0.val) (List.mem_map.2 ⟨e0, List.mem_of_getElem? h2, rfl⟩))

/-- 'm[k] = v', there before: the pair stays where it is. -/
theorem MapIs.put (ht : P.underlying t = some (.map k e)) (hk : P.underlying k = some d) {key v0 : Value} {m1 m2 : List (Value × Value)} (h : MapIs w b d (m1 ++ (key, v0) :: m2)) (v : Value) (hkey : IsKey d key) :
    ∃ o, (Instr.mapUpdate t (.map (some b)) key v).run P w = .ok () (setBlock w b o) ∧ MapIs (setBlock w b o) b d (m1 ++ (key, v) :: m2) := by
  obtain ⟨es, c, hb, hs, he, hks⟩ := h
  have hin : (key, v0) ∈ es.toList.map (fun e => (e.key, e.val)) := by rw [he]; simp
  obtain ⟨y, hy, hye⟩ := List.mem_map.1 hin
  simp only [Prod.mk.injEq] at hye
  rcases findNow_spec hkey es.toList 0 hks with ⟨h1, h2⟩ | ⟨j, e0, h1, h2, h3⟩
  · exact absurd hye.1 (h2 y hy)
  · have hj : es[j]? = some e0 := by simpa using h2
    have hkeyf : ∀ e', es[j]? = some e' → ({ e' with key := key, val := v } : MapEntry).key = e'.key := fun e' he' => by rw [hj] at he'; cases he'; exact h3.symm
    refine ⟨.map (es.modify j (fun e' => { e' with key := key, val := v })) c, ?_, ⟨_, c, heap_setBlock_same hb _, stamped_modify hs _ _ (fun _ _ => rfl) (fun e' _ he' => hkeyf e' he'), ?_, ?_⟩⟩
    · simp [Instr.mapUpdate, run_underlying ht, MapKept.run_getObj_map hb, run_checkKey hk hkey, run_findKey hk h1, hj, h3, run_keyThatStays hkey, MapKept.run_setObj_map _ hb, Result.andThen, setBlock]
    · rw [Array.toList_modify, modify_eq_set _ _ _ _ h2, List.map_set, he]
      have hjm : (m1 ++ (key, v0) :: m2)[j]? = some (key, e0.val) := by rw [← he, List.getElem?_map, h2]; simp [h3]
      have hn : ((m1 ++ (key, v0) :: m2).map (·.1)).Nodup := by
        rw [← he]; have := hs.2.2; simpa [List.map_map, Function.comp_def] using this
      have hlen : j = m1.length := by
        have hmm : (m1 ++ (key, v0) :: m2)[m1.length]? = some (key, v0) := by simp
        have hjl := (List.getElem?_eq_some_iff.1 hjm).1
        have hml := (List.getElem?_eq_some_iff.1 hmm).1
        have a1 : ((m1 ++ (key, v0) :: m2).map (·.1))[j]'(by simpa using hjl) = key := by
          have := (List.getElem?_eq_some_iff.1 hjm).2; rw [List.getElem_map, this]
        have a2 : ((m1 ++ (key, v0) :: m2).map (·.1))[m1.length]'(by simp) = key := by
          have := (List.getElem?_eq_some_iff.1 hmm).2; rw [List.getElem_map, this]
        exact nodup_get hn _ _ (a1.trans a2.symm)
      subst hlen
      simp
    · intro x hx
      rcases MapFrom.mem_modify hx with hx | ⟨e', _, rfl⟩
      · exact hks x hx
      · exact hkey

/-- 'delete(m, k)', there before. -/
theorem MapIs.del (ht : P.underlying t = some (.map k e)) (hk : P.underlying k = some d) {key v0 : Value} {m1 m2 : List (Value × Value)} (h : MapIs w b d (m1 ++ (key, v0) :: m2)) (hkey : IsKey d key) :
    ∃ o, (∀ ty, (Builtin.delete_ #[t, k] ty #[.map (some b), key]).run P w = .ok (.tuple #[]) (setBlock w b o)) ∧ MapIs (setBlock w b o) b d (m1 ++ m2) := by
  obtain ⟨es, c, hb, hs, he, hks⟩ := h
  have hin : (key, v0) ∈ es.toList.map (fun e => (e.key, e.val)) := by rw [he]; simp
  obtain ⟨y, hy, hye⟩ := List.mem_map.1 hin
  simp only [Prod.mk.injEq] at hye
  rcases findNow_spec hkey es.toList 0 hks with ⟨h1, h2⟩ | ⟨j, e0, h1, h2, h3⟩
  · exact absurd hye.1 (h2 y hy)
  · have hjl : j < es.toList.length := (List.getElem?_eq_some_iff.1 h2).1
    have hjs : j < es.size := by simpa using hjl
    have hsub : (es.eraseIdxIfInBounds j).toList = es.toList.eraseIdx j := by
      unfold Array.eraseIdxIfInBounds
      rw [dif_pos hjs]
      simp
    refine ⟨.map (es.eraseIdxIfInBounds j) c, ?_, ⟨_, c, heap_setBlock_same hb _, stamped_erase hs j, ?_, ?_⟩⟩
    · intro ty; simp [Builtin.delete_, run_underlying ht, MapKept.run_getObj_map hb, run_checkKey hk hkey, run_findKey hk h1, MapKept.run_setObj_map _ hb, Result.andThen, setBlock]
    · rw [hsub, map_eraseIdx, he]
      have hjm : (m1 ++ (key, v0) :: m2)[j]? = some (key, e0.val) := by rw [← he, List.getElem?_map, h2]; simp [h3]
      have hn : ((m1 ++ (key, v0) :: m2).map (·.1)).Nodup := by
        rw [← he]; have := hs.2.2; simpa [List.map_map, Function.comp_def] using this
      have hlen : j = m1.length := by
        have hmm : (m1 ++ (key, v0) :: m2)[m1.length]? = some (key, v0) := by simp
        have hjl := (List.getElem?_eq_some_iff.1 hjm).1
        have hml := (List.getElem?_eq_some_iff.1 hmm).1
        have a1 : ((m1 ++ (key, v0) :: m2).map (·.1))[j]'(by simpa using hjl) = key := by
          have := (List.getElem?_eq_some_iff.1 hjm).2; rw [List.getElem_map, this]
        have a2 : ((m1 ++ (key, v0) :: m2).map (·.1))[m1.length]'(by simp) = key := by
          have := (List.getElem?_eq_some_iff.1 hmm).2; rw [List.getElem_map, this]
        exact nodup_get hn _ _ (a1.trans a2.symm)
      subst hlen
      rw [List.eraseIdx_append_of_length_le (Nat.le_refl _)]
      simp
    · intro x hx
      rw [hsub] at hx
      exact hks x ((List.eraseIdx_sublist _ _).subset hx)
end
end Go.Proofs.Ytofffmnkoelifaa
