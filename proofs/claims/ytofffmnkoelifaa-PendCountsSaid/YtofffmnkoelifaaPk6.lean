/- Layer 17: a record is noted; how many are in each state. -/
import Derived.Test.YtofffmnkoelifaaRows
import Derived.WalkKit
import Derived.ProofKit
import Derived.OpenShut
import Derived.Handy
import Derived.Deep.LoopGhost
import Derived.Lib.Hide
import Derived.Lib.Strings
import Derived.SizedLaws
import Derived.Maps.Own
import Derived.Maps.OwnOps
import Derived.Maps.OwnSet
import Derived.Maps.RangeWalk
import Derived.Deep.Slices
import Derived.Laws.StructEq
import Derived.Deep.RegionHeld3
import Derived.Test.YtofffmnkoelifaaPk5
namespace Go.Proofs.Ytofffmnkoelifaa.pd
open Go.ChangeShapes Go.WideShapes Go.ChangeAt Go.RowKit Go.MapKept Go.ChangeMaps
open Go.Proofs.Ytofffmnkoelifaa.rc

/-- What noting a record makes of a set; was it noted? -/
def noteB (S : List OneS) (id : Int) (m : MsgS) : Bool :=
  if id < 0 then false else if m.kind = 3 ∨ m.kind = 4 then stateS S m.ref == 1 else if m.kind = 2 then stateS S id == 0 else false
def noteS (S : List OneS) (id : Int) (m : MsgS) : List OneS :=
  if id < 0 then S else if m.kind = 3 then endS S m.ref 2 else if m.kind = 4 then endS S m.ref 3 else if m.kind = 2 ∧ stateS S id = 0 then S ++ [⟨id, 1, m.due⟩] else S
theorem eqOne (a b c d : Int) (w : World) : (binOp .eql 69 (.agg #[.int .i64 a, .int .i64 b]) (.agg #[.int .i64 c, .int .i64 d])).run Try.prog w = .ok (.bool (a == c && b == d)) w := by
  have u3 := Try.underlying3
  have a3 := Try.isAgg3
  have z3 := Try.sizeOf3
  have hS : Try.prog.underlying 69 = some (.struct (Try.prog.fieldsOf 69)) := by kernel_rfl
  have hp : Try.prog.stoodInHeld 69 = false := by kernel_rfl
  rw [run_eql_struct, show (10000 : Nat) = 9999 + 1 from rfl, run_equalIn_agg w 9999 69 _ _ hS hp]
  simp only [Program.fieldsOf, Try.underlying69]
  go_simp
  by_cases h1 : a = c <;> by_cases h2 : b = d <;> simp [h1, h2]
section
variable {w w' : World} {p mb : Nat} {S : List OneS}
theorem SetIn.state_range (h : SetIn w p mb S) (id : Int) : stateS S id = 0 ∨ (1 ≤ stateS S id ∧ stateS S id ≤ 3) := by
  unfold stateS
  rcases get_cases S id with ⟨S1, x, S2, e1, e2, e3⟩ | ⟨_, e2⟩
  · rw [e3]; exact .inr (h.ok x (by rw [e1]; simp))
  · rw [e2]; exact .inl rfl
theorem SetIn.none_of (h : SetIn w p mb S) (id : Int) (h0 : stateS S id = 0) : (∀ x ∈ S, x.id ≠ id) ∧ getS S id = ⟨id, 0, 0⟩ := by
  rcases get_cases S id with ⟨S1, x, S2, e1, e2, e3⟩ | h1
  · have := h.ok x (by rw [e1]; simp)
    unfold stateS at h0
    rw [e3] at h0
    omega
  · exact h1
end
set_option maxRecDepth 100000 in
set_option maxHeartbeats 2000000 in
theorem Note_any (p mb : Nat) (S : List OneS) (id : Int) (m : MsgS) (kv : Value) (w : World) (h : SetIn w p mb S) (hidr : id ≤ 9223372036854775807) :
    Calls Try.prog 11 #[.pointer (some ⟨p, 0, none⟩), .int .i64 id, .agg (msgA m kv)] w (Wrote p mb (noteS S id m) (noteB S id m) w) := by
  obtain ⟨kd, q, du, rt, rf, bn, tp, tg, bd, ks⟩ := m
  obtain ⟨W1, hW1⟩ : ∃ W1, w.alloc (.cells (msgA ⟨kd, q, du, rt, rf, bn, tp, tg, bd, ks⟩ kv) 33) = W1 := ⟨_, rfl⟩
  have J0 := box (show W1.heap[w.heap.size]? = some (.cells (msgA ⟨kd, q, du, rt, rf, bn, tp, tg, bd, ks⟩ kv) 33 (0, 0)) by rw [← hW1]; exact heap_new w _)
  have hc : Calm w W1 := by rw [← hW1]; exact (Calm.refl w).alloc _
  have K0 := box (show Keeps (· = mb) w W1 by rw [← hW1]; exact (Keeps.refl _ w).alloc _)
  have h1 := h.calm hc
  have H1 := box h1
  have c0 := cell_of h1.blk 0
  have hlt := heap_lt h1.blk
  have d0 := cell_of J0.out 0
  have d1 := cell_of J0.out 1
  have d2 := cell_of J0.out 2
  have d3 := cell_of J0.out 3
  have d4 := cell_of J0.out 4
  have d5 := cell_of J0.out 5
  have d6 := cell_of J0.out 6
  have d7 := cell_of J0.out 7
  have d8 := cell_of J0.out 8
  have d9 := cell_of J0.out 9
  have hlj := heap_lt J0.out
  have hends := box (fun (st : Int) (hst : st = 2 ∨ st = 3) => ends_any p mb S rf st W1 h1 hst)
  have hmb := h.map.lt
  have hne := h.ne
  clear h hc
  by_cases hid : id < 0
  · have e1 : noteB S id ⟨kd, q, du, rt, rf, bn, tp, tg, bd, ks⟩ = false := if_pos hid
    have e2 : noteS S id ⟨kd, q, du, rt, rf, bn, tp, tg, bd, ks⟩ = S := if_pos hid
    rw [e1, e2]
    clear e1 e2 h1
    go_enter Try.func11, Try.ntmps11
    go_wp2_with fail
    go_ret
    exact ⟨rfl, H1.out, K0.out⟩
  · by_cases h3 : kd = 3
    · subst h3
      have e1 : noteB S id ⟨3, q, du, rt, rf, bn, tp, tg, bd, ks⟩ = (stateS S rf == 1) := by unfold noteB; rw [if_neg hid, if_pos (.inl rfl)]
      have e2 : noteS S id ⟨3, q, du, rt, rf, bn, tp, tg, bd, ks⟩ = endS S rf 2 := by unfold noteS; rw [if_neg hid, if_pos rfl]
      rw [e1, e2]
      have he := box (hends.out 2 (.inl rfl))
      obtain ⟨b, hb⟩ : ∃ b, (stateS S rf == 1) = b := ⟨_, rfl⟩
      rw [hb] at he ⊢
      clear e1 e2 h1 hends hb
      go_enter Try.func11, Try.ntmps11
      go_wp2_with fail
      refine he.out.mono ?_
      rintro e w2 ⟨rfl, hin, hk⟩
      have Hin := box hin
      have K2 := box (K0.out.trans' hk)
      clear hin hk
      go_wp2_with fail
      go_ret
      exact ⟨rfl, Hin.out, K2.out⟩
    · by_cases h4 : kd = 4
      · subst h4
        have e1 : noteB S id ⟨4, q, du, rt, rf, bn, tp, tg, bd, ks⟩ = (stateS S rf == 1) := by unfold noteB; rw [if_neg hid, if_pos (.inr rfl)]
        have e2 : noteS S id ⟨4, q, du, rt, rf, bn, tp, tg, bd, ks⟩ = endS S rf 3 := by unfold noteS; rw [if_neg hid, if_neg (by simp), if_pos rfl]
        rw [e1, e2]
        have he := box (hends.out 3 (.inr rfl))
        obtain ⟨b, hb⟩ : ∃ b, (stateS S rf == 1) = b := ⟨_, rfl⟩
        rw [hb] at he ⊢
        clear e1 e2 h1 hends hb
        go_enter Try.func11, Try.ntmps11
        go_wp2_with fail
        refine he.out.mono ?_
        rintro e w2 ⟨rfl, hin, hk⟩
        have Hin := box hin
        have K2 := box (K0.out.trans' hk)
        clear hin hk
        go_wp2_with fail
        go_ret
        exact ⟨rfl, Hin.out, K2.out⟩
      · have b3 : (kd == 3) = false := beq_eq_false_iff_ne.2 h3
        have b4 : (kd == 4) = false := beq_eq_false_iff_ne.2 h4
        by_cases h2 : kd = 2
        · subst h2
          have heq := eqOne
          have hl := h1.look id
          by_cases h0 : stateS S id = 0
          · have e1 : noteB S id ⟨2, q, du, rt, rf, bn, tp, tg, bd, ks⟩ = true := by unfold noteB; rw [if_neg hid, if_neg (by simp), if_pos rfl, h0]; rfl
            have e2 : noteS S id ⟨2, q, du, rt, rf, bn, tp, tg, bd, ks⟩ = S ++ [⟨id, 1, du⟩] := by unfold noteS; rw [if_neg hid, if_neg (by simp), if_neg (by simp), if_pos ⟨rfl, h0⟩]
            rw [e1, e2]
            obtain ⟨n1, n2⟩ := h1.none_of id h0
            rw [n2] at hl
            have h1d := h1.calm ((Calm.refl _).drew)
            have hadd := h1d.add id du n1 ⟨by omega, hidr⟩
            obtain ⟨o, hrun, hin⟩ := hadd
            have Hin := box hin
            have d0 := cell_of H1.out.blk 0
            have hb : ∀ w : World, (Instr.build 69 #[(0, .int .i64 1), (1, .int .i64 du)]).run Try.prog w = .ok (.agg #[.int .i64 1, .int .i64 du]) w := fun w => run_build w 69 _ _ (by kernel_rfl)
            clear e1 e2 h1 h1d hends h0 n1 n2 hin
            go_enter Try.func11, Try.ntmps11
            go_wp2_with fail
            refine wp_region_held_drew (S := fun w' => w'.cell? ⟨p, 0, none⟩ = some (.map (some mb)) ∧ w'.cell? ⟨w.heap.size, 2, none⟩ = some (.int .i64 du)) (by kernel_rfl) ⟨c0, cell_of J0.out 2⟩ (fun hHeld => ?_)
            ((refine' wpAnyH_take (i := 0) (v := _) rfl (by kernel_rfl) (by kernel_rfl) (by kernel_rfl) (fun _ _ _ h => h) (Or.inl ⟨by rfl, ?hy1⟩) (by assumption) ?rest1; (case hy1 => (intro w hSw; (try dsimp only at hSw); go_simp <;> with_reducible rfl)); simp only [List.getElem_toArray, List.getElem_cons_succ, List.getElem_cons_zero, Act.put, List.setIfInBounds_toArray, List.set_cons_zero, List.set_cons_succ]); (refine' wpAnyH_take (i := 1) (v := _) rfl (by kernel_rfl) (by kernel_rfl) (by kernel_rfl) (fun _ _ _ h => h) (Or.inl ⟨by rfl, ?hy2⟩) (by assumption) ?rest2; (case hy2 => (intro w hSw; (try dsimp only at hSw); go_simp <;> with_reducible rfl)); simp only [List.getElem_toArray, List.getElem_cons_succ, List.getElem_cons_zero, Act.put, List.setIfInBounds_toArray, List.set_cons_zero, List.set_cons_succ]); (refine' wpAnyH_take (i := 2) (v := _) rfl (by kernel_rfl) (by kernel_rfl) (by kernel_rfl) (fun _ _ _ h => h) (Or.inl ⟨by rfl, ?hy3⟩) (by assumption) ?rest3; (case hy3 => (intro w hSw; (try dsimp only at hSw); go_simp <;> with_reducible rfl)); simp only [List.getElem_toArray, List.getElem_cons_succ, List.getElem_cons_zero, Act.put, List.setIfInBounds_toArray, List.set_cons_zero, List.set_cons_succ]); (refine' wpAnyH_take (i := 3) (v := _) rfl (by kernel_rfl) (by kernel_rfl) (by kernel_rfl) (fun _ _ _ h => h) (Or.inl ⟨by rfl, ?hy4⟩) (by assumption) ?rest4; (case hy4 => (intro w hSw; (try dsimp only at hSw); go_simp <;> with_reducible rfl)); simp only [List.getElem_toArray, List.getElem_cons_succ, List.getElem_cons_zero, Act.put, List.setIfInBounds_toArray, List.set_cons_zero, List.set_cons_succ]); (refine' wpAnyH_take (i := 4) (v := _) rfl (by kernel_rfl) (by kernel_rfl) (by kernel_rfl) (fun _ _ _ h => h) (Or.inl ⟨by rfl, ?hy5⟩) (by assumption) ?rest5; (case hy5 => (intro w hSw; (try dsimp only at hSw); go_simp <;> with_reducible rfl)); simp only [List.getElem_toArray, List.getElem_cons_succ, List.getElem_cons_zero, Act.put, List.setIfInBounds_toArray, List.set_cons_zero, List.set_cons_succ]); (refine' wpAnyH_take (i := 5) (v := _) rfl (by kernel_rfl) (by kernel_rfl) (by kernel_rfl) (fun _ _ _ h => h) (Or.inl ⟨by rfl, ?hy6⟩) (by assumption) ?rest6; (case hy6 => (intro w hSw; (try dsimp only at hSw); go_simp <;> with_reducible rfl)); simp only [List.getElem_toArray, List.getElem_cons_succ, List.getElem_cons_zero, Act.put, List.setIfInBounds_toArray, List.set_cons_zero, List.set_cons_succ]); (refine' wpAnyH_take (i := 6) (v := _) rfl (by kernel_rfl) (by kernel_rfl) (by kernel_rfl) (fun _ _ _ h => h) (Or.inl ⟨by rfl, ?hy7⟩) (by assumption) ?rest7; (case hy7 => (intro w hSw; (try dsimp only at hSw); go_simp <;> with_reducible rfl)); simp only [List.getElem_toArray, List.getElem_cons_succ, List.getElem_cons_zero, Act.put, List.setIfInBounds_toArray, List.set_cons_zero, List.set_cons_succ]); (refine' wpAnyH_take (i := 7) (v := _) rfl (by kernel_rfl) (by kernel_rfl) (by kernel_rfl) (fun _ _ _ h => h) (Or.inl ⟨by rfl, ?hy8⟩) (by assumption) ?rest8; (case hy8 => (intro w hSw; (try dsimp only at hSw); go_simp <;> with_reducible rfl)); simp only [List.getElem_toArray, List.getElem_cons_succ, List.getElem_cons_zero, Act.put, List.setIfInBounds_toArray, List.set_cons_zero, List.set_cons_succ]))
            refine wpAnyH_ready (rs := [8]) (by kernel_rfl) (by simp) ?_
            refine AllReadyH.cons rfl (fun K hK => ?_) AllReadyH.nil
            rw [if_pos (by rfl)]
            go_simp
            refine hK.out _ _ ⟨(World.cell?_of_block (w := W1.drew) (a := ⟨p, 0, none⟩) (heap_put_other _ _ hne)).trans c0, (World.cell?_of_block (w := W1.drew) (a := ⟨w.heap.size, 2, none⟩) (heap_put_other _ _ (fun e => by simp only at e; omega))).trans (cell_of J0.out 2)⟩ (fun hHeld2 => ?_)
            clear hK K
            refine wpAnyH_done (by kernel_rfl) ?_ _
            go_wp2_with fail
            go_ret
            exact ⟨rfl, Hin.out, K0.out.drew.setObj (.inl rfl) _⟩
          · have e1 : noteB S id ⟨2, q, du, rt, rf, bn, tp, tg, bd, ks⟩ = false := by unfold noteB; rw [if_neg hid, if_neg (by simp), if_pos rfl]; exact beq_eq_false_iff_ne.2 h0
            have e2 : noteS S id ⟨2, q, du, rt, rf, bn, tp, tg, bd, ks⟩ = S := by unfold noteS; rw [if_neg hid, if_neg (by simp), if_neg (by simp), if_neg (fun h => h0 h.2)]
            rw [e1, e2]
            have hz : ((getS S id).st == 0) = false := beq_eq_false_iff_ne.2 h0
            obtain ⟨x, hx⟩ : ∃ x, getS S id = x := ⟨_, rfl⟩
            rw [hx] at hl hz
            clear e1 e2 h1 hends h0 hx
            go_enter Try.func11, Try.ntmps11
            go_wp2_with fail
            go_ret
            exact ⟨rfl, H1.out, K0.out⟩
        · have b2 : (kd == 2) = false := beq_eq_false_iff_ne.2 h2
          have e1 : noteB S id ⟨kd, q, du, rt, rf, bn, tp, tg, bd, ks⟩ = false := by unfold noteB; rw [if_neg hid, if_neg (by simp only; omega), if_neg h2]
          have e2 : noteS S id ⟨kd, q, du, rt, rf, bn, tp, tg, bd, ks⟩ = S := by unfold noteS; rw [if_neg hid, if_neg h3, if_neg h4, if_neg (fun h => h2 h.1)]
          rw [e1, e2]
          clear e1 e2 h1 hends
          go_enter Try.func11, Try.ntmps11
          go_wp2_with fail
          go_ret
          exact ⟨rfl, H1.out, K0.out⟩
end Go.Proofs.Ytofffmnkoelifaa.pd

/- Layer 17: how many are in each state; the example. -/
namespace Go.Proofs.Ytofffmnkoelifaa.pd
open Go.ChangeShapes Go.WideShapes Go.ChangeAt Go.RowKit Go.MapKept Go.ChangeMaps
open Go.Proofs.Ytofffmnkoelifaa.rc

/-- How many are in a state. -/
def cnt (k : Int) (L : List OneS) : Nat := (L.filter (fun x => x.st == k)).length
theorem cnt_le (k : Int) (L : List OneS) : cnt k L ≤ L.length := List.length_filter_le _ _
theorem cnt_split (k : Int) (L1 L2 : List OneS) (x : OneS) : cnt k (L1 ++ x :: L2) = (if x.st = k then 1 else 0) + cnt k (L1 ++ L2) := by
  unfold cnt
  rw [List.filter_append, List.filter_append, List.length_append, List.length_append]
  by_cases h : x.st = k
  · rw [List.filter_cons_of_pos (by simp [h]), List.length_cons, if_pos h]; omega
  · rw [List.filter_cons_of_neg (by simp [h]), if_neg h]; omega
theorem encO_inj {x y : OneS} (h : encO x = encO y) : x = y := by
  obtain ⟨a, b, c⟩ := x
  obtain ⟨a', b', c'⟩ := y
  simp [encO] at h
  obtain ⟨h1, h2, h3⟩ := h
  subst h1 h2 h3
  rfl
theorem encO_split {left : List OneS} {l1 l2 : List (Value × Value)} {x : Value × Value} (h : left.map encO = l1 ++ x :: l2) : ∃ L1 y L2, left = L1 ++ y :: L2 ∧ L1.map encO = l1 ∧ encO y = x ∧ L2.map encO = l2 := by
  obtain ⟨L1, L', hL, h1, h2⟩ := List.map_eq_append_iff.1 h
  obtain ⟨g, L2, hL', h3, h4⟩ := List.map_eq_cons_iff.1 h2
  exact ⟨L1, g, L2, by rw [hL, hL'], h1, h3, h4⟩
theorem calm_store {a w : World} (h : Calm a w) {p : Addr} (hp : a.heap.size ≤ p.block) (u : Value) : Calm a (w.setCell p u) :=
  ((Keeps.of_calm (F := fun b => a.heap.size ≤ b) h).setCell (.inr hp) u).below (Nat.le_refl _) (fun _ h => h)
abbrev fourC (a b c : Nat) : Array Value := #[.int .i64 0, .int .i64 (a : Int), .int .i64 (b : Int), .int .i64 (c : Int)]
/-- The counters' block. -/
def CntAt (w : World) (n a b c : Nat) : Prop := w.heap[n]? = some (.cells (fourC a b c) 67 (0, 0))
/-- A round of the count: the range goes on, nothing else has turned. -/
theorem count_round {w w1 : World} {mb R n k : Nat} {m left : List (Value × Value)} (hc : Calm w w1) (hr : RangeIs w1 mb R (.int .i64) m left) (hn : n = w.heap.size) (hR : R ≠ n) (hmb : mb ≠ n) (o : Obj) (u : Value) :
    RangeIs ((w1.setCell ⟨n, k, none⟩ u).alloc o) mb R (.int .i64) m left ∧ Calm w ((w1.setCell ⟨n, k, none⟩ u).alloc o) := by
  have k2 : Keeps (fun b => b = n) w1 ((w1.setCell ⟨n, k, none⟩ u).alloc o) := ((Keeps.refl (fun b => b = n) w1).setCell (p := ⟨n, k, none⟩) (.inl rfl) u).alloc o
  exact ⟨hr.same (k2.block mb hr.map.lt hmb) (k2.block R hr.lt hR), (calm_store hc (p := ⟨n, k, none⟩) (by rw [hn]; exact Nat.le_refl _) u).alloc o⟩
set_option maxRecDepth 100000 in
set_option maxHeartbeats 4000000 in
theorem Counts_any (p mb : Nat) (S : List OneS) (w : World) (h : SetIn w p mb S) (hl : S.length ≤ 1000000) :
    Calls Try.prog 10 #[.pointer (some ⟨p, 0, none⟩)] w fun e w' => e = .returned (.tuple #[.int .i64 (cnt 1 S : Nat), .int .i64 (cnt 2 S : Nat), .int .i64 (cnt 3 S : Nat)]) ∧ Calm w w' := by
  have hn := box (heap_new w (.cells #[.int .i64 0, .int .i64 0, .int .i64 0, .int .i64 0] 67))
  have hc0 : Calm w (w.alloc (.cells #[.int .i64 0, .int .i64 0, .int .i64 0, .int .i64 0] 67)) := (Calm.refl w).alloc _
  have h1 := h.calm hc0
  have C0 := box hc0
  have Hm := box h1.map
  have Hok := box h.ok
  have hmb := h.map.lt
  have c0 := cell_of h1.blk 0
  have hlt := heap_lt h1.blk
  have hl1 := box (cnt_le 1 S)
  have hl2 := box (cnt_le 2 S)
  have hl3 := box (cnt_le 3 S)
  clear h h1 hc0
  go_enter Try.func10, Try.ntmps10
  go_wp2_with (at_range; refine wpList_range_list rfl _ rfl Try.underlying64 rfl Hm.out ?_; intro w0 hr0 hc0 hs0)
  (try go_frame)
  have hb0 := heap_calm hc0 hn.out
  have hw0 := C0.out.trans hc0
  go_loopw [7] (fun _ wr => ∃ left : List OneS, RangeIs wr mb (w.alloc (.cells #[.int .i64 0, .int .i64 0, .int .i64 0, .int .i64 0] 67)).heap.size (.int .i64) (S.map encO) (left.map encO) ∧ (∃ a b c : Nat, CntAt wr w.heap.size a b c ∧ a + cnt 1 left = cnt 1 S ∧ b + cnt 2 left = cnt 2 S ∧ c + cnt 3 left = cnt 3 S) ∧ Calm w wr ∧ ∀ x ∈ left, x ∈ S) (fun _ wr => wr.rangeLeft mb (w.alloc (.cells #[.int .i64 0, .int .i64 0, .int .i64 0, .int .i64 0] 67)).heap.size)
  case atStart => exact ⟨S, hr0, ⟨0, 0, 0, hb0, by omega, by omega, by omega⟩, hw0, fun _ h => h⟩
  case round =>
    obtain ⟨left, hr, ⟨a, b, c, hblk, ea, eb, ec⟩, hcalm, hin⟩ := hrel
    have Hb := box (show wr.heap[w.heap.size]? = some (.cells (fourC a b c) 67 (0, 0)) from hblk)
    have ba : a ≤ 1000000 := by have := hl1.out; omega
    have bb : b ≤ 1000000 := by have := hl2.out; omega
    have bc : c ≤ 1000000 := by have := hl3.out; omega
    have E := box (And.intro ea (And.intro eb ec))
    have Hr := box hr
    have Hin := box hin
    have HC := box hcalm
    clear hr hin ea eb ec hblk hcalm
    go_wp2_with (at_next; refine wpList_next_list rfl _ rfl rfl Hr.out ?_ ?_)
    case refine_1 =>
      intro hnil
      have hnil : left = [] := by simpa using hnil
      subst hnil
      obtain ⟨ea, eb, ec⟩ := E.out
      have z1 : cnt 1 [] = 0 := rfl
      have z2 : cnt 2 [] = 0 := rfl
      have z3 : cnt 3 [] = 0 := rfl
      have e1 : cnt 1 S = a := by omega
      have e2 : cnt 2 S = b := by omega
      have e3 : cnt 3 S = c := by omega
      have Ee := box (And.intro e1 (And.intro e2 e3))
      clear ea eb ec z1 z2 z3 e1 e2 e3 E hl1 hl2 hl3
      have d0 := cell_of Hb.out 0
      have d1 := cell_of Hb.out 1
      have d2 := cell_of Hb.out 2
      have d3 := cell_of Hb.out 3
      have hld := heap_lt Hb.out
      go_wp2_with fail
      refine wp_region_held_drew (S := fun w' => w'.cell? ⟨w.heap.size, 1, none⟩ = some (.int .i64 (a : Int)) ∧ w'.cell? ⟨w.heap.size, 2, none⟩ = some (.int .i64 (b : Int)) ∧ w'.cell? ⟨w.heap.size, 3, none⟩ = some (.int .i64 (c : Int))) (by kernel_rfl) ⟨d1, d2, d3⟩ (fun hHeld => ?_)
      ((refine' wpAnyH_take (i := 0) (v := _) rfl (by kernel_rfl) (by kernel_rfl) (by kernel_rfl) (fun _ _ _ h => h) (Or.inl ⟨by rfl, ?hy9⟩) (by assumption) ?rest9; (case hy9 => (intro w hSw; (try dsimp only at hSw); go_simp <;> with_reducible rfl)); simp only [List.getElem_toArray, List.getElem_cons_succ, List.getElem_cons_zero, Act.put, List.setIfInBounds_toArray, List.set_cons_zero, List.set_cons_succ]); (refine' wpAnyH_take (i := 1) (v := _) rfl (by kernel_rfl) (by kernel_rfl) (by kernel_rfl) (fun _ _ _ h => h) (Or.inl ⟨by rfl, ?hy10⟩) (by assumption) ?rest10; (case hy10 => (intro w hSw; (try dsimp only at hSw); go_simp <;> with_reducible rfl)); simp only [List.getElem_toArray, List.getElem_cons_succ, List.getElem_cons_zero, Act.put, List.setIfInBounds_toArray, List.set_cons_zero, List.set_cons_succ]); (refine' wpAnyH_take (i := 2) (v := _) rfl (by kernel_rfl) (by kernel_rfl) (by kernel_rfl) (fun _ _ _ h => h) (Or.inl ⟨by rfl, ?hy11⟩) (by assumption) ?rest11; (case hy11 => (intro w hSw; (try dsimp only at hSw); go_simp <;> with_reducible rfl)); simp only [List.getElem_toArray, List.getElem_cons_succ, List.getElem_cons_zero, Act.put, List.setIfInBounds_toArray, List.set_cons_zero, List.set_cons_succ]); (refine' wpAnyH_take (i := 3) (v := _) rfl (by kernel_rfl) (by kernel_rfl) (by kernel_rfl) (fun _ _ _ h => h) (Or.inl ⟨by rfl, ?hy12⟩) (by assumption) ?rest12; (case hy12 => (intro w hSw; (try dsimp only at hSw); go_simp <;> with_reducible rfl)); simp only [List.getElem_toArray, List.getElem_cons_succ, List.getElem_cons_zero, Act.put, List.setIfInBounds_toArray, List.set_cons_zero, List.set_cons_succ]); (refine' wpAnyH_take (i := 4) (v := _) rfl (by kernel_rfl) (by kernel_rfl) (by kernel_rfl) (fun _ _ _ h => h) (Or.inl ⟨by rfl, ?hy13⟩) (by assumption) ?rest13; (case hy13 => (intro w hSw; (try dsimp only at hSw); go_simp <;> with_reducible rfl)); simp only [List.getElem_toArray, List.getElem_cons_succ, List.getElem_cons_zero, Act.put, List.setIfInBounds_toArray, List.set_cons_zero, List.set_cons_succ]); (refine' wpAnyH_take (i := 5) (v := _) rfl (by kernel_rfl) (by kernel_rfl) (by kernel_rfl) (fun _ _ _ h => h) (Or.inl ⟨by rfl, ?hy14⟩) (by assumption) ?rest14; (case hy14 => (intro w hSw; (try dsimp only at hSw); go_simp <;> with_reducible rfl)); simp only [List.getElem_toArray, List.getElem_cons_succ, List.getElem_cons_zero, Act.put, List.setIfInBounds_toArray, List.set_cons_zero, List.set_cons_succ]); (refine' wpAnyH_take (i := 6) (v := _) rfl (by kernel_rfl) (by kernel_rfl) (by kernel_rfl) (fun _ _ _ h => h) (Or.inl ⟨by rfl, ?hy15⟩) (by assumption) ?rest15; (case hy15 => (intro w hSw; (try dsimp only at hSw); go_simp <;> with_reducible rfl)); simp only [List.getElem_toArray, List.getElem_cons_succ, List.getElem_cons_zero, Act.put, List.setIfInBounds_toArray, List.set_cons_zero, List.set_cons_succ]); (refine' wpAnyH_take (i := 7) (v := _) rfl (by kernel_rfl) (by kernel_rfl) (by kernel_rfl) (fun _ _ _ h => h) (Or.inl ⟨by rfl, ?hy16⟩) (by assumption) ?rest16; (case hy16 => (intro w hSw; (try dsimp only at hSw); go_simp <;> with_reducible rfl)); simp only [List.getElem_toArray, List.getElem_cons_succ, List.getElem_cons_zero, Act.put, List.setIfInBounds_toArray, List.set_cons_zero, List.set_cons_succ]); (refine' wpAnyH_take (i := 8) (v := _) rfl (by kernel_rfl) (by kernel_rfl) (by kernel_rfl) (fun _ _ _ h => h) (Or.inl ⟨by rfl, ?hy17⟩) (by assumption) ?rest17; (case hy17 => (intro w hSw; (try dsimp only at hSw); go_simp <;> with_reducible rfl)); simp only [List.getElem_toArray, List.getElem_cons_succ, List.getElem_cons_zero, Act.put, List.setIfInBounds_toArray, List.set_cons_zero, List.set_cons_succ]))
      refine wpAnyH_done (by kernel_rfl) ?_ _
      go_wp2_with fail
      go_ret3
      exact ⟨by rw [Ee.out.1, Ee.out.2.1, Ee.out.2.2]; rfl, HC.out.drew⟩
    case refine_2 =>
      intro l1 x1 x2 l2 w1 hl hr1 hen hk1 hs1 z hz hz1 hz2
      have hzx : (x1, x2) = encO z := by rw [← hz1, ← hz2]
      subst hz1 hz2
      obtain ⟨L1, y, L2, hL, rfl, hy, rfl⟩ := encO_split hl
      obtain rfl : y = z := encO_inj hy
      have hcalm1 : Calm w w1 := ⟨hk1.os.trans HC.out.os, hk1.tape.trans HC.out.tape, hk1.output.trans HC.out.output, Nat.le_trans HC.out.size hk1.size, fun b hb => (hk1.block b (Nat.lt_of_lt_of_le hb HC.out.size) (fun e => by omega)).trans (HC.out.block b hb)⟩
      have hne : ¬ w.heap.size = w.heap.size + 1 := by omega
      have Hb1 := box ((hk1.block _ (heap_lt Hb.out) hne).trans Hb.out)
      have hyS := Hok.out y (Hin.out y (by rw [hL]; simp))
      subst hL
      obtain ⟨ea, eb, ec⟩ := E.out
      have hin1 := box (show ∀ g ∈ L1 ++ L2, g ∈ S from fun g hg => Hin.out g (by rcases List.mem_append.1 hg with h | h <;> simp [h]))
      have hround := box (fun (k : Nat) (o : Obj) (u : Value) => count_round (k := k) hcalm1 hr1 rfl (fun e => hne e.symm) (by omega) o u)
      have hlt2 := box (show (L1 ++ L2).length < (L1 ++ y :: L2).length by simp)
      have hleq := box (Hr.out.left_eq)
      have hst : y.st = 1 ∨ y.st = 2 ∨ y.st = 3 := by omega
      clear hyS hl hr1 hcalm1 hk1 Hin hy hz hzx hs1
      obtain ⟨id, st, due⟩ := y
      simp only at hst
      have d0 := cell_of Hb1.out 0
      have d1 := cell_of Hb1.out 1
      have d2 := cell_of Hb1.out 2
      have d3 := cell_of Hb1.out 3
      have f0 := free_of Hb1.out 0
      have f1 := free_of Hb1.out 1
      have f2 := free_of Hb1.out 2
      have f3 := free_of Hb1.out 3
      have hld := heap_lt Hb1.out
      rcases hst with rfl | rfl | rfl
      · have hblk2 := box (show ∀ o, CntAt ((w1.setCell ⟨w.heap.size, 1, none⟩ (.int .i64 ((a : Int) + 1))).alloc o) w.heap.size (a + 1) b c from fun o => by
          have := heap_old _ o (heap_set Hb1.out 1 (.int .i64 ((a : Int) + 1)))
          unfold CntAt
          simpa [fourC] using this)
        have hE := box (show a + 1 + cnt 1 (L1 ++ L2) = cnt 1 S ∧ b + cnt 2 (L1 ++ L2) = cnt 2 S ∧ c + cnt 3 (L1 ++ L2) = cnt 3 S from by
          have s1 := cnt_split 1 L1 L2 ⟨id, 1, due⟩
          have s2 := cnt_split 2 L1 L2 ⟨id, 1, due⟩
          have s3 := cnt_split 3 L1 L2 ⟨id, 1, due⟩
          simp at s1 s2 s3
          omega)
        go_wp2_with fail
        go_roundw
        case rel => exact ⟨L1 ++ L2, by rw [List.map_append]; exact (hround.out 1 _ _).1, ⟨a + 1, b, c, hblk2.out _, hE.out.1, hE.out.2.1, hE.out.2.2⟩, (hround.out 1 _ _).2, hin1.out⟩
        case measure => have hq := hleq.out; rw [World.size_alloc] at hq; rw [(hround.out 1 _ _).1.left_eq, hq]; simp
      · have hblk2 := box (show ∀ o, CntAt ((w1.setCell ⟨w.heap.size, 2, none⟩ (.int .i64 ((b : Int) + 1))).alloc o) w.heap.size a (b + 1) c from fun o => by
          have := heap_old _ o (heap_set Hb1.out 2 (.int .i64 ((b : Int) + 1)))
          unfold CntAt
          simpa [fourC] using this)
        have hE := box (show a + cnt 1 (L1 ++ L2) = cnt 1 S ∧ b + 1 + cnt 2 (L1 ++ L2) = cnt 2 S ∧ c + cnt 3 (L1 ++ L2) = cnt 3 S from by
          have s1 := cnt_split 1 L1 L2 ⟨id, 2, due⟩
          have s2 := cnt_split 2 L1 L2 ⟨id, 2, due⟩
          have s3 := cnt_split 3 L1 L2 ⟨id, 2, due⟩
          simp at s1 s2 s3
          omega)
        go_wp2_with fail
        go_roundw
        case rel => exact ⟨L1 ++ L2, by rw [List.map_append]; exact (hround.out 2 _ _).1, ⟨a, b + 1, c, hblk2.out _, hE.out.1, hE.out.2.1, hE.out.2.2⟩, (hround.out 2 _ _).2, hin1.out⟩
        case measure => have hq := hleq.out; rw [World.size_alloc] at hq; rw [(hround.out 2 _ _).1.left_eq, hq]; simp
      · have hblk2 := box (show ∀ o, CntAt ((w1.setCell ⟨w.heap.size, 3, none⟩ (.int .i64 ((c : Int) + 1))).alloc o) w.heap.size a b (c + 1) from fun o => by
          have := heap_old _ o (heap_set Hb1.out 3 (.int .i64 ((c : Int) + 1)))
          unfold CntAt
          simpa [fourC] using this)
        have hE := box (show a + cnt 1 (L1 ++ L2) = cnt 1 S ∧ b + cnt 2 (L1 ++ L2) = cnt 2 S ∧ c + 1 + cnt 3 (L1 ++ L2) = cnt 3 S from by
          have s1 := cnt_split 1 L1 L2 ⟨id, 3, due⟩
          have s2 := cnt_split 2 L1 L2 ⟨id, 3, due⟩
          have s3 := cnt_split 3 L1 L2 ⟨id, 3, due⟩
          simp at s1 s2 s3
          omega)
        go_wp2_with fail
        go_roundw
        case rel => exact ⟨L1 ++ L2, by rw [List.map_append]; exact (hround.out 3 _ _).1, ⟨a, b, c + 1, hblk2.out _, hE.out.1, hE.out.2.1, hE.out.2.2⟩, (hround.out 3 _ _).2, hin1.out⟩
        case measure => have hq := hleq.out; rw [World.size_alloc] at hq; rw [(hround.out 3 _ _).1.left_eq, hq]; simp
end Go.Proofs.Ytofffmnkoelifaa.pd
