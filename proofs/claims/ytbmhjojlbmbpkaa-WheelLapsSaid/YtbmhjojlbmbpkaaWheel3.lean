/- Layer 15: how far the hand has to go; the wheel that isn't there; all slots' marks. -/
import Derived.Test.YtbmhjojlbmbpkaaWheel2
namespace Go.Proofs.Ytbmhjojlbmbpkaa.wh
open Go.ChangeShapes Go.WideShapes Go.ChangeAt Go.RowKit
open Go.Proofs.Ytbmhjojlbmbpkaa.dk Go.Proofs.Ytbmhjojlbmbpkaa.oc

theorem Ahead_any (q p : Nat) (t now : Int) (w : World) (h : WheelAt w q p t) (ht : 0 ≤ t ∧ t ≤ 1000000000000000000) (hn : -1000000000000000000 ≤ now ∧ now ≤ 1000000000000000000) :
    Calls Try.prog 23 #[ptrTo q, .int .i64 now] w fun e w' => e = .returned (.int .i64 (if now ≤ t then 0 else now - t)) ∧ w = w' := by
  have hh := box (Hand_any q p t w h)
  obtain ⟨ht0, ht1⟩ := ht
  obtain ⟨hn0, hn1⟩ := hn
  have q1 : IntKind.i64.wrap (now - t) = now - t := IntWalk.i64_in _ (by omega)
  clear h
  by_cases hl : now ≤ t
  · rw [if_pos hl]
    go_enter Try.func23, Try.ntmps23
    go_wp2_with fail
    refine hh.out.mono ?_
    rintro e w1 ⟨rfl, rfl⟩
    go_wp2_with fail
    go_ret
    exact ⟨ret_int (by omega), rfl⟩
  · rw [if_neg hl]
    go_enter Try.func23, Try.ntmps23
    go_wp2_with fail
    refine hh.out.mono ?_
    rintro e w1 ⟨rfl, rfl⟩
    go_wp2_with fail
    go_ret
    exact ⟨ret_int (by omega), rfl⟩
theorem AheadNil_any (now : Int) (w : World) : Calls Try.prog 23 #[.pointer none, .int .i64 now] w fun e w' => e = .returned (.int .i64 0) ∧ w = w' := by
  go_enter Try.func23, Try.ntmps23
  go_wp2
  go_ret
  exact ⟨rfl, rfl⟩
theorem HandNil_any (w : World) : Calls Try.prog 24 #[.pointer none] w fun e w' => e = .returned (.int .i64 0) ∧ w = w' := by
  go_enter Try.func24, Try.ntmps24
  go_wp2
  go_ret
  exact ⟨rfl, rfl⟩
theorem TurnNil_any (now : Int) (w : World) : Calls Try.prog 22 #[.pointer none, .int .i64 now] w fun e w' => e = .returned (.tuple #[.int .i64 0, .bool false]) ∧ w = w' := by
  go_enter Try.func22, Try.ntmps22
  go_wp2
  go_ret2
  exact ⟨rfl, rfl⟩
theorem HeadNil_any (s : Int) (w : World) : Calls Try.prog 34 #[.pointer none, .int .i64 s] w fun e w' => e = .returned (.tuple #[.int .i64 0, .int .i64 1]) ∧ w = w' := by
  have hb := box (barsNil_any s w)
  go_enter Try.func34, Try.ntmps34
  go_wp2_with fail
  refine hb.out.mono ?_
  rintro e w1 ⟨rfl, rfl⟩
  go_wp2_with fail
  go_ret2
  exact ⟨rfl, rfl⟩
theorem SetNil_any (s n : Int) (w : World) : Calls Try.prog 31 #[.pointer none, .int .i64 s, .int .i64 n] w fun e w' => e = .returned (.int .i64 1) ∧ w = w' := by
  have hb := box (barsNil_any s w)
  go_enter Try.func31, Try.ntmps31
  go_wp2_with fail
  refine hb.out.mono ?_
  rintro e w1 ⟨rfl, rfl⟩
  go_wp2_with fail
  go_ret
  exact ⟨rfl, rfl⟩
theorem HeadsNil_any (w : World) : Calls Try.prog 33 #[.pointer none] w fun e w' => e = .returned (.tuple #[.slice none 0 0, .int .i64 1]) ∧ w = w' := by
  have hb := box (HeadNil_any 0 w)
  go_enter Try.func33, Try.ntmps33
  go_wp2_with fail
  refine wp_loop_rounds 2 ?_
  rw [rounds_succ]
  go_wp2_with fail
  refine hb.out.mono ?_
  rintro e w1 ⟨rfl, rfl⟩
  go_wp2_with fail
  go_ret2
  exact ⟨rfl, rfl⟩

/-- A new wheel on a new disk of 1000 bytes. -/
def wd1 (b : Nat) : DiskS := ⟨-1, false, 1000, [⟨wslots, b, ⟨#[]⟩, laid ⟨#[]⟩ 0 (noughts 96)⟩], [⟨b, 0, noughts 96⟩]⟩
def wd0 (b : Nat) : DiskS := ⟨-1, false, 1000, [⟨wslots, b, ⟨#[]⟩, ⟨#[]⟩⟩], []⟩
theorem wn1 (b : Nat) : wnew (new 1000) b = (0, wd1 b) := by
  have h0 : (new 1000).names whead = [] := by simp [DiskS.names, DiskS.namesL, new]
  have h1 : cleared (new 1000) whead = (0, new 1000) := by unfold cleared; rw [if_pos h0]
  have h2 : (new 1000).create wslots b = (0, wd0 b) := by rfl
  have h3 : (wd0 b).write wslots 0 (noughts 96) = (0, wd1 b) := by rfl
  unfold wnew
  rw [h1, if_neg (fun h => h rfl), h2, if_neg (fun h => h rfl), h3]
theorem New_1000 {p : Nat} {F : Nat → Prop} (t : Int) (w : World) (h : DiskOk w p (new 1000) F 0) (ht : 0 ≤ t ∧ t ≤ 1099511627776) :
    Calls Try.prog 21 #[ptrTo p, .int .i64 t] w fun e w' => ∃ q b F', e = .returned (.tuple #[ptrTo q, .int .i64 0]) ∧ DiskOk w' p (wd1 b) F' 1 ∧ Step F w F' w' ∧ WheelAt w' q p t ∧ w.heap.size ≤ q ∧ ¬ F' q := by
  refine (New_any t w h (by decide) ht (fun f hf => by cases hf) (by decide)).mono ?_
  rintro e w' ⟨b, v, F', hb, rfl, hd, hs, hv⟩
  rw [wn1] at hd hv
  rw [wn1]
  rcases hv with ⟨_, q, rfl, hq, hlt, hF⟩ | ⟨h, _⟩
  · exact ⟨q, b, F', rfl, hd, hs, hq, hlt, hF⟩
  · exact absurd rfl h
theorem turned_goes {t now : Int} (h : t < now) : turned t now = (t + 1, true, t + 1) := by unfold turned; rw [if_neg (by omega)]
theorem turned_stays {t now : Int} (h : now ≤ t) : turned t now = (0, false, t) := by unfold turned; rw [if_pos h]
set_option maxRecDepth 100000 in
set_option maxHeartbeats 4000000 in
theorem awake_any (w : World) : Calls Try.prog 20 #[] w fun e w' => e = .returned (.bool true) ∧ Calm w w' := by
  go_enter Try.func20, Try.ntmps20
  go_wp2_with fail
  refine (New_ok _ 1000).mono ?_
  rintro e w1 ⟨p, F, rfl, h1, hc1, hF1⟩
  have O1 := box ((Owns.refl w).new hc1 hF1)
  have H1 := box h1
  clear h1 hc1 hF1
  go_wp2_with fail
  refine (New_1000 5 _ H1.out (by decide)).mono ?_
  rintro e w2 ⟨q, b, F2, rfl, h2, hs2, hq, hq2, hF2⟩
  have O2 := box (O1.out.step hs2)
  have Q2 := box hq
  have Hq := box (Nat.le_trans O1.out.calm.size hq2)
  clear h2 hs2 hq hq2 hF2
  go_wp2_with fail
  refine (Turn_any q p 5 7 _ Q2.out (by decide)).mono ?_
  rw [turned_goes (by decide)]
  rintro e w3 ⟨rfl, hq3, hk3⟩
  have K3 := box hk3
  have Q3 := box hq3
  clear hk3 hq3
  go_wp2_with fail
  refine (Turn_any q p (5 + 1) 7 _ Q3.out (by decide)).mono ?_
  rw [turned_goes (by decide)]
  rintro e w4 ⟨rfl, hq4, hk4⟩
  have K4 := box (K3.out.trans' hk4)
  have Q4 := box hq4
  clear hk4 hq4
  go_wp2_with fail
  refine (Turn_any q p (5 + 1 + 1) 7 _ Q4.out (by decide)).mono ?_
  rw [turned_stays (by decide)]
  rintro e w5 ⟨rfl, hq5, hk5⟩
  have K5 := box (K4.out.trans' hk5)
  have Q5 := box hq5
  clear hk5 hq5
  go_wp2_with fail
  refine (Hand_any q p (5 + 1 + 1) _ Q5.out).mono ?_
  rintro e w6 ⟨rfl, rfl⟩
  go_wp2_with fail
  go_ret
  refine ⟨ret_bool (by simp), ?_⟩
  exact Below.trans O2.out.calm (K5.out.below O2.out.calm.size (fun x e => by have := Hq.out; omega))
end Go.Proofs.Ytbmhjojlbmbpkaa.wh
