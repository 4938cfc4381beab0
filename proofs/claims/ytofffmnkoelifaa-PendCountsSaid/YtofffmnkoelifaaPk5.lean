/- Layer 17: what is still to come: a set of scheduled records. -/
import Derived.Test.YtofffmnkoelifaaRows
import Derived.WalkKit
import Derived.ProofKit
import Derived.OpenShut
import Derived.Handy
import Derived.Deep.LoopGhost
import Derived.Lib.Hide
import Derived.Lib.Strings
import Derived.SizedLaws
import Derived.Maps.Own
import Derived.Maps.OwnOps
import Derived.Maps.OwnSet
import Derived.Maps.RangeWalk
import Derived.Deep.Slices
import Derived.Laws.StructEq
import Derived.Test.YtofffmnkoelifaaPk4
namespace Go.Proofs.Ytofffmnkoelifaa.pd
open Go.ChangeShapes Go.WideShapes Go.ChangeAt Go.RowKit Go.MapKept Go.ChangeMaps
open Go.Proofs.Ytofffmnkoelifaa.rc

/-- A scheduled record. -/
structure OneS where
  id : Int
  st : Int
  due : Int
abbrev encO (x : OneS) : Value × Value := (.int .i64 x.id, .agg #[.int .i64 x.st, .int .i64 x.due])
/-- A set: in block p, its map in block mb. -/
structure SetIn (w : World) (p mb : Nat) (S : List OneS) : Prop where
  blk : w.heap[p]? = some (.cells #[.map (some mb)] 66 (0, 0))
  map : MapIs w mb (.int .i64) (S.map encO)
  ok : ∀ x ∈ S, 1 ≤ x.st ∧ x.st ≤ 3
  ids : ∀ x ∈ S, 0 ≤ x.id ∧ x.id ≤ 9223372036854775807
/-- What is there of a number. -/
def getS (S : List OneS) (id : Int) : OneS := (S.find? (·.id == id)).getD ⟨id, 0, 0⟩
def stateS (S : List OneS) (id : Int) : Int := (getS S id).st
def dueS (S : List OneS) (id : Int) : Int := if stateS S id = 1 then (getS S id).due else 0
def endS (S : List OneS) (id st : Int) : List OneS := if stateS S id = 1 then S.map (fun x => if x.id = id then ⟨id, st, 0⟩ else x) else S
section
variable {w w' : World} {p mb : Nat} {S : List OneS}
theorem SetIn.ne (h : SetIn w p mb S) : p ≠ mb := fun e => by
  obtain ⟨es, c, hb, _⟩ := h.map
  have := h.blk
  rw [e, hb] at this
  cases this
theorem SetIn.nodup (h : SetIn w p mb S) : (S.map (·.id)).Nodup := by
  have h1 := h.map.nodup
  rw [List.map_map] at h1
  rw [List.Nodup, List.pairwise_map] at h1 ⊢
  exact h1.imp (fun {a b} hab e => hab (by simp only [Function.comp, encO, e]))
theorem SetIn.calm (h : SetIn w p mb S) (hc : Calm w w') : SetIn w' p mb S := ⟨heap_calm hc h.blk, h.map.calm hc, h.ok, h.ids⟩
theorem SetIn.same (h : SetIn w p mb S) (h1 : w'.heap[p]? = w.heap[p]?) (h2 : w'.heap[mb]? = w.heap[mb]?) : SetIn w' p mb S := ⟨h1.trans h.blk, h.map.same h2, h.ok, h.ids⟩
/-- There, or not. -/
theorem get_cases (S : List OneS) (id : Int) : (∃ S1 x S2, S = S1 ++ x :: S2 ∧ x.id = id ∧ getS S id = x) ∨ ((∀ x ∈ S, x.id ≠ id) ∧ getS S id = ⟨id, 0, 0⟩) := by
  unfold getS
  cases hf : S.find? (·.id == id) with
  | none => exact .inr ⟨fun x hx e => by have := List.find?_eq_none.1 hf x hx; simp [e] at this, rfl⟩
  | some x =>
    obtain ⟨h1, S1, S2, h2, _⟩ := List.find?_eq_some_iff_append.1 hf
    exact .inl ⟨S1, x, S2, h2, by simpa using h1, rfl⟩
theorem SetIn.look (h : SetIn w p mb S) (id : Int) : (Instr.lookup 64 (.map (some mb)) (.int .i64 id) false).run Try.prog w = .ok (.agg #[.int .i64 (getS S id).st, .int .i64 (getS S id).due]) w := by
  rcases get_cases S id with ⟨S1, x, S2, h1, h2, h3⟩ | ⟨h1, h2⟩
  · have := h.map.hit (P := Try.prog) Try.underlying64 Try.underlying3 (key := .int .i64 id) (v := .agg #[.int .i64 x.st, .int .i64 x.due]) rfl (List.mem_map.2 ⟨x, by rw [h1]; simp, by simp [encO, h2]⟩) false
    rw [h3]
    exact this
  · have := h.map.miss (P := Try.prog) (z := .agg #[.int .i64 0, .int .i64 0]) Try.underlying64 Try.underlying3 (key := .int .i64 id) rfl (by kernel_rfl) (fun y hy => by
      obtain ⟨x, hx, rfl⟩ := List.mem_map.1 hy
      intro e
      simp only [encO, Value.int.injEq, true_and] at e
      exact h1 x hx e) false
    rw [h2]
    exact this
theorem fld0 (a b : Int) (w : World) : (Instr.field 69 (.agg #[.int .i64 a, .int .i64 b]) 0).run Try.prog w = .ok (.int .i64 a) w := by kernel_rfl
theorem fld1 (a b : Int) (w : World) : (Instr.field 69 (.agg #[.int .i64 a, .int .i64 b]) 1).run Try.prog w = .ok (.int .i64 b) w := by kernel_rfl
theorem nodup_parts {S1 S2 : List OneS} {x : OneS} (h : ((S1 ++ x :: S2).map (·.id)).Nodup) : (∀ y ∈ S1, y.id ≠ x.id) ∧ ∀ y ∈ S2, y.id ≠ x.id := by
  rw [List.map_append, List.map_cons, List.nodup_append] at h
  obtain ⟨_, h2, h3⟩ := h
  rw [List.nodup_cons] at h2
  exact ⟨fun y hy e => h3 y.id (List.mem_map.2 ⟨y, hy, rfl⟩) x.id (List.mem_cons_self ..) e, fun y hy e => h2.1 (List.mem_map.2 ⟨y, hy, e⟩)⟩
theorem map_id_of {S1 : List OneS} {id : Int} {z : OneS} (h : ∀ y ∈ S1, y.id ≠ id) : S1.map (fun x => if x.id = id then z else x) = S1 := by
  rw [List.map_congr_left (g := fun x => x) (fun y hy => if_neg (h y hy)), List.map_id']
/-- A pending one ends. -/
theorem SetIn.put (h : SetIn w p mb S) (id st : Int) (h1 : stateS S id = 1) (hst : st = 2 ∨ st = 3) :
    ∃ o, (Instr.mapUpdate 64 (.map (some mb)) (.int .i64 id) (.agg #[.int .i64 st, .int .i64 0])).run Try.prog w = .ok () (setBlock w mb o) ∧ SetIn (setBlock w mb o) p mb (endS S id st) := by
  have hn := h.nodup
  have hne := h.ne
  rcases get_cases S id with ⟨S1, x, S2, e1, e2, e3⟩ | ⟨_, e2⟩
  · subst e1
    obtain ⟨n1, n2⟩ := nodup_parts hn
    rw [e2] at n1 n2
    have hm := h.map
    rw [List.map_append, List.map_cons] at hm
    simp only [encO] at hm
    rw [e2] at hm
    obtain ⟨o, g1, g2⟩ := MapIs.put (P := Try.prog) (t := 64) Try.underlying64 Try.underlying3 hm (.agg #[.int .i64 st, .int .i64 0]) rfl
    refine ⟨o, g1, ?_, ?_, ?_, ?_⟩
    · rw [heap_put_other _ _ hne]; exact h.blk
    · unfold endS
      rw [if_pos h1, List.map_append, List.map_cons, map_id_of n1, map_id_of n2, if_pos e2, List.map_append, List.map_cons]
      exact g2
    · unfold endS
      rw [if_pos h1]
      intro y hy
      obtain ⟨z, hz, rfl⟩ := List.mem_map.1 hy
      by_cases hzi : z.id = id
      · rw [if_pos hzi]; simp only; omega
      · rw [if_neg hzi]; exact h.ok z hz
    · unfold endS
      rw [if_pos h1]
      intro y hy
      obtain ⟨z, hz, rfl⟩ := List.mem_map.1 hy
      by_cases hzi : z.id = id
      · rw [if_pos hzi, ← hzi]; exact h.ids z hz
      · rw [if_neg hzi]; exact h.ids z hz
  · unfold stateS at h1; rw [e2] at h1; cases h1
/-- A new one. -/
theorem SetIn.add (h : SetIn w p mb S) (id due : Int) (h1 : ∀ x ∈ S, x.id ≠ id) (hid : 0 ≤ id ∧ id ≤ 9223372036854775807) :
    ∃ o, (Instr.mapUpdate 64 (.map (some mb)) (.int .i64 id) (.agg #[.int .i64 1, .int .i64 due])).run Try.prog w = .ok () (setBlock w mb o) ∧ SetIn (setBlock w mb o) p mb (S ++ [⟨id, 1, due⟩]) := by
  have hne := h.ne
  obtain ⟨o, g1, g2⟩ := MapIs.add (P := Try.prog) (t := 64) h.map Try.underlying64 Try.underlying3 (key := .int .i64 id) (.agg #[.int .i64 1, .int .i64 due]) rfl (fun y hy => by
    obtain ⟨x, hx, rfl⟩ := List.mem_map.1 hy
    intro e
    simp only [encO, Value.int.injEq, true_and] at e
    exact h1 x hx e)
  refine ⟨o, g1, ?_, ?_, ?_, ?_⟩
  · rw [heap_put_other _ _ hne]; exact h.blk
  · rw [List.map_append]; exact g2
  · intro y hy
    rcases List.mem_append.1 hy with hy | hy
    · exact h.ok y hy
    · rw [List.mem_singleton] at hy; subst hy; simp only; omega
  · intro y hy
    rcases List.mem_append.1 hy with hy | hy
    · exact h.ids y hy
    · rw [List.mem_singleton] at hy; subst hy; exact hid
end

set_option maxRecDepth 100000 in
theorem New_any (w : World) : Calls Try.prog 9 #[] w fun e w' => ∃ p mb, e = .returned (.pointer (some ⟨p, 0, none⟩)) ∧ SetIn w' p mb [] ∧ w.heap.size ≤ p ∧ w.heap.size ≤ mb ∧ Calm w w' := by
  have hmm := @run_makeMap Try.prog
  have hm := box (MapIs.made w (.int .i64))
  have hb := box (heap_new (w.alloc (.map #[] 0)) (.cells #[.map (some w.heap.size)] 66))
  go_enter Try.func9, Try.ntmps9
  go_wp2_with fail
  go_ret
  have hc : Calm (w.alloc (.map #[] 0)) ((w.alloc (.map #[] 0)).alloc (.cells #[.map (some w.heap.size)] 66)) := (Calm.refl _).alloc _
  refine ⟨w.heap.size + 1, w.heap.size, rfl, ⟨?_, hm.out.calm hc, by simp, by simp⟩, Nat.le_succ _, Nat.le_refl _, ((Calm.refl w).alloc _).trans hc⟩
  have := hb.out
  rwa [World.size_alloc] at this
set_option maxRecDepth 100000 in
theorem State_any (p mb : Nat) (S : List OneS) (id : Int) (w : World) (h : SetIn w p mb S) :
    Calls Try.prog 13 #[.pointer (some ⟨p, 0, none⟩), .int .i64 id] w fun e w' => e = .returned (.int .i64 (stateS S id)) ∧ w = w' := by
  have hl := h.look id
  have hf := fld0
  have c0 := cell_of h.blk 0
  have hlt := heap_lt h.blk
  have e0 : stateS S id = (getS S id).st := rfl
  rw [e0]
  obtain ⟨x, hx⟩ : ∃ x, getS S id = x := ⟨_, rfl⟩
  rw [hx] at hl ⊢
  clear h hx e0
  go_enter Try.func13, Try.ntmps13
  go_wp2_with fail
  go_ret
  exact ⟨rfl, rfl⟩
set_option maxRecDepth 100000 in
theorem Due_any (p mb : Nat) (S : List OneS) (id : Int) (w : World) (h : SetIn w p mb S) :
    Calls Try.prog 14 #[.pointer (some ⟨p, 0, none⟩), .int .i64 id] w fun e w' => e = .returned (.int .i64 (dueS S id)) ∧ w = w' := by
  have hl := h.look id
  have hf := fld1
  have c0 := cell_of h.blk 0
  have hlt := heap_lt h.blk
  have hs := box (State_any p mb S id w h)
  by_cases h1 : stateS S id = 1
  · have e0 : dueS S id = (getS S id).due := if_pos h1
    rw [e0]
    rw [h1] at hs
    clear h h1 e0
    go_enter Try.func14, Try.ntmps14
    go_wp2_with fail
    refine hs.out.mono ?_
    rintro e w2 ⟨rfl, rfl⟩
    go_wp2_with fail
    go_ret
    exact ⟨rfl, rfl⟩
  · have e0 : dueS S id = 0 := if_neg h1
    rw [e0]
    have h2 : (stateS S id == 1) = false := beq_eq_false_iff_ne.2 h1
    obtain ⟨k, hk⟩ : ∃ k, stateS S id = k := ⟨_, rfl⟩
    rw [hk] at hs h2
    clear h h1 e0 hk hl
    go_enter Try.func14, Try.ntmps14
    go_wp2_with fail
    refine hs.out.mono ?_
    rintro e w2 ⟨rfl, rfl⟩
    go_wp2_with fail
    go_ret
    exact ⟨rfl, rfl⟩
theorem over_any (p mb : Nat) (S : List OneS) (id : Int) (w : World) (h : SetIn w p mb S) :
    Calls Try.prog 34 #[.pointer (some ⟨p, 0, none⟩), .int .i64 id] w fun e w' => e = .returned (.bool (stateS S id != 1)) ∧ w = w' := by
  have hs := box (State_any p mb S id w h)
  clear h
  go_enter Try.func34, Try.ntmps34
  go_wp2_with fail
  refine hs.out.mono ?_
  rintro e w2 ⟨rfl, rfl⟩
  go_wp2_with fail
  go_ret
  exact ⟨rfl, rfl⟩
/-- What a call that may write the map leaves. -/
def Wrote (p mb : Nat) (S : List OneS) (b : Bool) (w : World) (e : Ending) (w' : World) : Prop := e = .returned (.bool b) ∧ SetIn w' p mb S ∧ Keeps (· = mb) w w'
theorem ends_any (p mb : Nat) (S : List OneS) (id st : Int) (w : World) (h : SetIn w p mb S) (hst : st = 2 ∨ st = 3) :
    Calls Try.prog 30 #[.pointer (some ⟨p, 0, none⟩), .int .i64 id, .int .i64 st] w (Wrote p mb (endS S id st) (stateS S id == 1) w) := by
  have c0 := cell_of h.blk 0
  have hlt := heap_lt h.blk
  have hs := box (State_any p mb S id w h)
  by_cases h1 : stateS S id = 1
  · obtain ⟨o, hrun, hin⟩ := h.put id st h1 hst
    have Hin := box hin
    rw [h1] at hs ⊢
    clear h h1 hin
    go_enter Try.func30, Try.ntmps30
    go_wp2_with fail
    refine hs.out.mono ?_
    rintro e w2 ⟨rfl, rfl⟩
    go_wp2_with fail
    go_ret
    exact ⟨rfl, Hin.out, (Keeps.refl (· = mb) w).setObj (.inl rfl) _⟩
  · have h2 : (stateS S id == 1) = false := beq_eq_false_iff_ne.2 h1
    have e0 : endS S id st = S := if_neg h1
    rw [h2, e0]
    have H := box h
    obtain ⟨k, hk⟩ : ∃ k, stateS S id = k := ⟨_, rfl⟩
    rw [hk] at hs h2
    clear h h1 e0 hk
    go_enter Try.func30, Try.ntmps30
    go_wp2_with fail
    refine hs.out.mono ?_
    rintro e w2 ⟨rfl, rfl⟩
    go_wp2_with fail
    go_ret
    exact ⟨rfl, H.out, Keeps.refl _ _⟩
end Go.Proofs.Ytofffmnkoelifaa.pd
