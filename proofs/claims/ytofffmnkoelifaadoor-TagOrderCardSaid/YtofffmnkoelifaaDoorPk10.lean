/- Layer 9: rows of texts grow; what is quickly wanted. -/
import Derived.Test.YtofffmnkoelifaaDoorRows
import Derived.WalkKit
import Derived.ProofKit
import Derived.OpenShut
import Derived.Handy
import Derived.Deep.LoopGhost
import Derived.Lib.Hide
import Derived.Lib.Strings
import Derived.SizedLaws
import Derived.Deep.Slices
import Derived.Shelf.SlIter.Nil
import Derived.Ground.GgzProg
import Derived.Shelf.SortM.Plain
import Derived.Shelf.SortM.SortNone
import Derived.Ground.SlgmProg
import Derived.Test.YtofffmnkoelifaaDoorProg
import Derived.Shelf.Strings.Builder1
import Derived.Shelf.Strings.Builder2
import Derived.Shelf.Strings.OnBuilder
import Derived.Shelf.Small.Bits
import Derived.Shelf.Strings.BuilderF
import Derived.Shelf.Strings.BuilderK
import Derived.Shelf.Utf8.RuneCount
import Derived.Shelf.Strings.Builder2Cap
import Derived.Shelf.Strconv.Itoa0
import Derived.Shelf.Strings.Search1
import Derived.Shelf.Strings.Search2
import Derived.Shelf.Strings.Search3
import Derived.Shelf.Strings.Count
import Derived.Shelf.LaysM
import Derived.Shelf.Strings.Shaped
import Derived.Shelf.Sort.Plain
import Derived.Shelf.GgClosure.StringsIndexFunc
import Derived.Ground.GgwProg
import Derived.Shelf.GgClosure.StringsIndexFuncTop
import Derived.Shelf.GgClosure.StringsRunes
import Derived.Shelf.Strings.Split
import Derived.Shelf.Strings.SplitShaped
import Derived.Shelf.Unicode.Decode
import Derived.Shelf.Strings.RuneCount
import Derived.Shelf.Strings.Explode
import Derived.Shelf.Unicode.DecodeSlow
import Derived.Shelf.Unicode.DecodeAny
import Derived.Shelf.Strings.BuilderCap
import Derived.Ground.Names2Prog
import Derived.Shelf.Slices.Clone
import Derived.Shelf.Slices.CompactS
import Derived.Shelf.Slices.Cells
import Derived.Shelf.Slices.In.SortNone
import Derived.Ground.SlgnProg
import Derived.Shelf.SlicesE.Compact
import Derived.Shelf.SlicesE.Clone
import Derived.Ground.SlgfProg
import Derived.Shelf.SlicesE.IndexFunc
import Derived.RangeFuncBox
import Derived.RangeFuncLeaves
import Derived.Shelf.Abstract
import Derived.OwnWalkIn
import Derived.TacticsInMore
import Derived.LoopNIn
import Derived.LoopIn
import Derived.Maps.AppendAt
import Derived.Lib.SlicesCompact
import Derived.Deep.QuietTactic
import Derived.BigQuiet
import Derived.Laws.ResultCell
import Derived.Laws.Rows
import Derived.Lib.SplitLaws
import Derived.Lib.Join
import Derived.Lib.IndexMore
import Derived.Laws.AppendOwn
import Derived.Deep.Upon
import Derived.Deep.RegionHeld3
import Derived.Test.YtofffmnkoelifaaDoorPk9
namespace Go.Proofs.YtofffmnkoelifaaDoor.tg
open Go.ChangeShapes Go.WideShapes Go.ChangeAt Go.RowKit Go.Shelf Go.Sort
open Go.Proofs.YtofffmnkoelifaaDoor.nm Go.Proofs.YtofffmnkoelifaaDoor.vs Go.Proofs.YtofffmnkoelifaaDoor.rc

theorem infoStr : (Tryd.prog.info? 9).map (fun i => (i.zero, i.size, i.bytes)) = some (some (.string ⟨#[]⟩), 1, 16) := by kernel_rfl
/-- Texts are appended onto a row of one's own. -/
theorem append_strs (w : World) (base : Nat) (v u : Value) (l m : List ByteArray) (h : w.ownsRow base 9 1 v l.length (l.map Value.string)) (hbase : base ≤ w.heap.size) (hu : StrsAt w u m) (hl : l.length + m.length ≤ 1000000) (ty : TypeId) :
    ∃ v' w', (Builtin.append_ #[22, 22] ty #[v, u]).run Tryd.prog w = .ok v' w' ∧ w'.ownsRow base 9 1 v' (l ++ m).length ((l ++ m).map Value.string) ∧ Keeps (base ≤ ·) w w' := by
  obtain ⟨i0, hi, hz0, hz1, hz2⟩ := info_parts infoStr
  rcases hu with ⟨rfl, a, cap, rfl⟩ | ⟨b, off, cap, rfl, hc⟩
  · obtain ⟨a', c', rfl, hle⟩ := row_cap h
    have hs : Src Tryd.prog i0.size 22 (.slice a 0 cap) 0 [] w := by
      cases a with
      | none => exact Src.ofNil w Tryd.underlying22 cap
      | some a => exact Src.ofSlice w Tryd.underlying22 a 0 cap [] (by simp) (fun j u hj => by simp at hj) (fun u hu => by cases hu)
    refine ⟨_, w, run_append_nothing w 22 22 ty 9 i0 Tryd.underlying22 hi a' l.length c' hle _ hs, by rw [List.append_nil]; exact h, Keeps.refl _ _⟩
  · obtain ⟨v', w', h1, h2, h3, _⟩ := run_append_own (P := Tryd.prog) w base 22 ty 9 i0 _ 1 16 Tryd.underlying22 hi hz0 hz1 hz2 (by kernel_rfl) (by decide) v l.length _ h ⟨b, off, none⟩ m.length cap (m.map Value.string) (by simp) (fun j u hj => by
      have hj' : j < m.length := by have := (List.getElem?_eq_some_iff.1 hj).1; simpa using this
      rw [show (⟨b, off, none⟩ : Addr).add j = ⟨b, off + j, none⟩ by unfold Addr.add; split <;> simp_all, hc j hj']
      rw [List.getElem?_map, List.getElem?_eq_getElem hj'] at hj
      rw [List.getD_eq_getElem?_getD, List.getElem?_eq_getElem hj']
      exact hj) (fun u hu => by
      obtain ⟨x, _, rfl⟩ := List.mem_map.1 hu
      rfl) (by simp only [maxLen]; omega) (by omega) hbase
    refine ⟨v', w', h1, ?_, (Keeps.refl (base ≤ ·) w).grown h3 (fun k hk => .inl (h.lt k hk).1)⟩
    rw [List.length_append, List.map_append]
    exact h2
/-- Is a tag's number wanted? -/
def hashB (x : ByteArray) : Int := (hashL (flatS [x]) : Nat)
def quickB (T : List ByteArray) (n : Int) : Bool := T.isEmpty || T.any (fun x => hashB x == n)
abbrev quickV (B : Nat) : Value := .func (.func 20) #[] #[.pointer (some ⟨B, 0, none⟩)]
theorem quick_one (B : Nat) (x : ByteArray) (n : Int) (W : World) (hc : W.cell? ⟨B, 0, none⟩ = some (.int .i64 n)) (hx : x.size ≤ maxLen) : Calls Tryd.prog 20 #[.string x, .pointer (some ⟨B, 0, none⟩)] W fun e w' => e = .returned (.bool (hashB x == n)) ∧ Calm W w' := by
  have hbl : B < W.heap.size := World.block_lt_of_cell? W ⟨B, 0, none⟩ hc
  have hh := box (Hash_any (.slice (some ⟨W.heap.size, 0, none⟩) 1 1) [x] (W.alloc (.cells #[.string x] 9)).drew (StrsAt.one (cell_of (heap_new W (.cells #[.string x] 9)) 0)) (by simp) (fun s hs => by rw [List.mem_singleton] at hs; subst hs; exact hx))
  have e0 : hashB x = (hashL (flatS [x]) : Nat) := rfl
  rw [e0]
  obtain ⟨k, hk⟩ : ∃ k, hashL (flatS [x]) = k := ⟨_, rfl⟩
  rw [hk] at hh ⊢
  have C := box ((Calm.refl W).alloc (.cells #[.string x] 9))
  clear e0 hk hx
  go_enter Tryd.func20, Tryd.ntmps20
  go_wp2_with fail
  refine wp_region_held_drew (S := fun w' => w'.cell? ⟨B, 0, none⟩ = some (.int .i64 n)) (by kernel_rfl) hc (fun hHeld => ?_)
  ((refine' wpAnyH_take (i := 0) (v := _) rfl (by kernel_rfl) (by kernel_rfl) (by kernel_rfl) (fun _ _ _ h => h) (Or.inl ⟨by rfl, ?hy1⟩) (by assumption) ?rest1; (case hy1 => (intro w hSw; (try dsimp only at hSw); go_simp <;> with_reducible rfl)); simp only [List.getElem_toArray, List.getElem_cons_succ, List.getElem_cons_zero, Act.put, List.setIfInBounds_toArray, List.set_cons_zero, List.set_cons_succ]))
  ((refine' wpAnyH_take (i := 3) (v := _) rfl (by kernel_rfl) (by kernel_rfl) (by kernel_rfl) (fun _ _ _ h => h) (Or.inl ⟨by rfl, ?hy2⟩) (by assumption) ?rest2; (case hy2 => (intro w hSw; (try dsimp only at hSw); go_simp <;> with_reducible rfl)); simp only [List.getElem_toArray, List.getElem_cons_succ, List.getElem_cons_zero, Act.put, List.setIfInBounds_toArray, List.set_cons_zero, List.set_cons_succ]))
  refine wpAnyH_ready (rs := [1]) (by kernel_rfl) (by simp) ?_
  refine AllReadyH.cons rfl (fun K hK => ?_) AllReadyH.nil
  rw [if_pos (by rfl)]
  go_simp
  refine hK.out _ _ ((Below.cell (((Calm.refl W).alloc _).drew) (p := ⟨B, 0, none⟩) hbl).trans hc) (fun hHeld2 => ?_)
  clear hK K
  try simp only [List.getElem_toArray, List.getElem_cons_succ, List.getElem_cons_zero, Act.put, List.setIfInBounds_toArray, List.set_cons_zero, List.set_cons_succ]
  refine wpAnyH_ready (rs := [2]) (by kernel_rfl) (by simp) ?_
  refine AllReadyH.cons rfl (fun K hK => ?_) AllReadyH.nil
  rw [if_pos (by rfl)]
  go_simp
  refine hh.out.mono ?_
  rintro e w2 ⟨rfl, rfl⟩
  go_wp2_with fail
  refine hK.out _ _ hHeld2 (fun hHeld3 => ?_)
  clear hK K
  try simp only [List.getElem_toArray, List.getElem_cons_succ, List.getElem_cons_zero, Act.put, List.setIfInBounds_toArray, List.set_cons_zero, List.set_cons_succ]
  ((refine' wpAnyH_take (i := 4) (v := _) rfl (by kernel_rfl) (by kernel_rfl) (by kernel_rfl) (fun _ _ _ h => h) (Or.inl ⟨by rfl, ?hy3⟩) (by assumption) ?rest3; (case hy3 => (intro w hSw; (try dsimp only at hSw); go_simp <;> with_reducible rfl)); simp only [List.getElem_toArray, List.getElem_cons_succ, List.getElem_cons_zero, Act.put, List.setIfInBounds_toArray, List.set_cons_zero, List.set_cons_succ]); (refine' wpAnyH_take (i := 5) (v := _) rfl (by kernel_rfl) (by kernel_rfl) (by kernel_rfl) (fun _ _ _ h => h) (Or.inl ⟨by rfl, ?hy4⟩) (by assumption) ?rest4; (case hy4 => (intro w hSw; (try dsimp only at hSw); go_simp <;> with_reducible rfl)); simp only [List.getElem_toArray, List.getElem_cons_succ, List.getElem_cons_zero, Act.put, List.setIfInBounds_toArray, List.set_cons_zero, List.set_cons_succ]))
  refine wpAnyH_done (by kernel_rfl) ?_ _
  go_wp2_with fail
  go_ret
  exact ⟨rfl, C.out.drew⟩
set_option maxRecDepth 100000 in
set_option maxHeartbeats 2000000 in
theorem IndexQuick_any (B : Nat) (n : Int) (v : Value) (l : List ByteArray) (w : World) (h : StrsAt w v l) (hl : l.length ≤ 1000000) (hz : ∀ s ∈ l, s.size ≤ maxLen) (hB : w.cell? ⟨B, 0, none⟩ = some (.int .i64 n)) :
    Calls Tryd.prog 39 #[v, quickV B] w fun e w' => ∃ k : Int, e = .returned (.int .i64 k) ∧ (decide (0 ≤ k) = l.any (fun x => hashB x == n)) ∧ -1 ≤ k ∧ k ≤ 1000000 ∧ Calm w w' := by
  obtain ⟨a, cap, rfl, hcells⟩ := h.uni
  have H := box hcells
  have Hz := box hz
  have hq := box (fun (x : ByteArray) (W : World) (hW : Calm w W) (hx : x.size ≤ maxLen) => quick_one B x n W ((hW.cell (p := ⟨B, 0, none⟩) (World.block_lt_of_cell? w ⟨B, 0, none⟩ hB)).trans hB) hx)
  have hen := enters_of Tryd.func20 (by kernel_rfl) rfl
  clear h hz hcells hB
  go_enter Tryd.func39, Tryd.ntmps39
  go_wp2_with fail
  go_loopw [8] (fun i wr => ∃ k : Nat, k ≤ l.length ∧ i = .int .i64 k ∧ (l.take k).any (fun x => hashB x == n) = false ∧ Calm w wr) (fun i _ => l.length - (intOf i).toNat)
  case atStart => exact ⟨0, Nat.zero_le _, rfl, rfl, Calm.refl _⟩
  case round =>
    obtain ⟨k, hk, rfl, hall, hcal⟩ := hrel
    have Ha := box hall
    have HC := box hcal
    clear hall hcal
    by_cases hlt : k < l.length
    · obtain ⟨b, off, rfl, hb, hcell0⟩ := H.out k hlt
      have hcell := (HC.out.cell (p := ⟨b, off + k, none⟩) hb).trans hcell0
      have hblt := Nat.lt_of_lt_of_le hb HC.out.size
      rw [List.getD_eq_getElem?_getD, List.getElem?_eq_getElem hlt] at hcell
      simp only [Option.getD_some] at hcell
      have hok := box (hq.out l[k] wr HC.out (Hz.out _ (List.getElem_mem hlt)))
      have hstep := box (show (l.take (k + 1)).any (fun x => hashB x == n) = ((l.take k).any (fun x => hashB x == n) || (hashB l[k] == n)) by
        rw [List.take_succ_eq_append_getElem hlt, List.any_append]; simp)
      have hfound := box (show (hashB l[k] == n) = true → l.any (fun x => hashB x == n) = true from fun h => List.any_eq_true.2 ⟨l[k], List.getElem_mem hlt, h⟩)
      obtain ⟨x, hx⟩ : ∃ x, l[k] = x := ⟨_, rfl⟩
      rw [hx] at hcell hok hstep hfound
      obtain ⟨r, hr⟩ : ∃ r, (hashB x == n) = r := ⟨_, rfl⟩
      rw [hr] at hok hstep hfound
      clear hx hr hcell0
      cases r
      · go_wp2_with fail
        refine hok.out.mono ?_
        rintro e w2 ⟨rfl, hc⟩
        have C2 := box (HC.out.trans hc)
        clear hc
        go_wp2_with fail
        go_roundw
        case rel => exact ⟨k + 1, by omega, by go_num, by rw [hstep.out, Ha.out]; rfl, C2.out⟩
        case measure => simp [intOf]; omega
      · have hf := box (hfound.out rfl)
        clear hfound hstep
        go_wp2_with fail
        refine hok.out.mono ?_
        rintro e w2 ⟨rfl, hc⟩
        have C2 := box (HC.out.trans hc)
        clear hc
        go_wp2_with fail
        go_ret
        exact ⟨k, rfl, by rw [hf.out]; exact decide_eq_true (by omega), by omega, by omega, C2.out⟩
    · obtain rfl : k = l.length := by omega
      go_wp2_with fail
      go_ret
      exact ⟨-1, rfl, by have := Ha.out; rw [List.take_length] at this; rw [this]; rfl, by omega, by omega, HC.out⟩
set_option maxRecDepth 100000 in
theorem ContainsQuick_any (B : Nat) (n : Int) (v : Value) (l : List ByteArray) (w : World) (h : StrsAt w v l) (hl : l.length ≤ 1000000) (hz : ∀ s ∈ l, s.size ≤ maxLen) (hB : w.cell? ⟨B, 0, none⟩ = some (.int .i64 n)) :
    Calls Tryd.prog 30 #[v, quickV B] w fun e w' => e = .returned (.bool (l.any (fun x => hashB x == n))) ∧ Calm w w' := by
  have hi := box (IndexQuick_any B n v l w h hl hz hB)
  obtain ⟨a, cap, rfl, _⟩ := h.uni
  clear h hz hB
  go_enter Tryd.func30, Tryd.ntmps30
  go_wp2_with fail
  refine hi.out.mono ?_
  rintro e w2 ⟨k, rfl, hk, k1, k2, hc⟩
  have C := box hc
  have K := box hk
  clear hc hk
  go_wp2_with fail
  go_ret
  exact ⟨ret_bool K.out, C.out⟩
set_option maxRecDepth 100000 in
theorem Quick_any (f : Value) (T : List ByteArray) (n : Int) (w : World) (h : FilAt w f T) (hl : T.length ≤ 1000000) (hz : ∀ s ∈ T, s.size ≤ maxLen) :
    Calls Tryd.prog 8 #[f, .int .i64 n] w fun e w' => e = .returned (.bool (quickB T n)) ∧ Calm w w' := by
  obtain ⟨W1, hW1⟩ : ∃ W1, w.alloc (.cells #[.int .i64 n] 3) = W1 := ⟨_, rfl⟩
  have J0 := box (show W1.heap[w.heap.size]? = some (.cells #[.int .i64 n] 3 (0, 0)) by rw [← hW1]; exact heap_new w _)
  have hc : Calm w W1 := by rw [← hW1]; exact (Calm.refl w).alloc _
  have C1 := box hc
  have hany : Calls Tryd.prog 18 #[f, quickV w.heap.size] W1 fun e w' => e = .returned (.bool (quickB T n)) ∧ Calm W1 w' := by
    obtain ⟨q, a, c, rfl, hq, hle, hst⟩ := h.calm hc
    have c0 := cell_of hq 0
    have hlt := heap_lt hq
    have hco := box (ContainsQuick_any w.heap.size n (.slice a T.length c) T W1 hst hl hz (cell_of J0.out 0))
    by_cases hT : T = []
    · subst hT
      have e0 : quickB [] n = true := rfl
      rw [e0]
      clear hst hq hle e0
      go_enter Tryd.func18, Tryd.ntmps18
      go_wp2_with fail
      go_ret
      exact ⟨rfl, Calm.refl _⟩
    · have E := box (show quickB T n = T.any (fun x => hashB x == n) by unfold quickB; rw [List.isEmpty_eq_false_iff.2 hT]; rfl)
      have hpos : 0 < T.length := List.length_pos_iff.2 hT
      have hTn : ¬ T.length = 0 := by omega
      have hTb : (((T.length : Nat) : Int) == 0) = false := beq_eq_false_iff_ne.2 (by omega)
      rw [E.out]
      obtain ⟨r, hr⟩ : ∃ r, T.any (fun x => hashB x == n) = r := ⟨_, rfl⟩
      rw [hr] at hco ⊢
      clear hst hq hr
      go_enter Tryd.func18, Tryd.ntmps18
      go_wp2_with fail
      refine hco.out.mono ?_
      rintro e w1 ⟨rfl, hc⟩
      have C := box hc
      clear hc
      go_wp2_with fail
      go_ret
      exact ⟨rfl, C.out⟩
  have Hany := box hany
  obtain ⟨r, hr⟩ : ∃ r, quickB T n = r := ⟨_, rfl⟩
  rw [hr] at Hany ⊢
  clear h hany hc hr
  go_enter Tryd.func8, Tryd.ntmps8
  go_wp2_with fail
  refine Hany.out.mono ?_
  rintro e w2 ⟨rfl, hc⟩
  have C2 := box (C1.out.trans hc)
  clear hc
  go_wp2_with fail
  go_ret
  exact ⟨rfl, C2.out⟩
end Go.Proofs.YtofffmnkoelifaaDoor.tg
