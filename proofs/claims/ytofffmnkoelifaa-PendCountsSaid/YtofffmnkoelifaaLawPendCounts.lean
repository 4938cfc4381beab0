/- PendCounts: each scheduled record is counted once; what is pending is told once, and its due times never fall. No condition. -/
import Derived.Test.YtofffmnkoelifaaRows
import Derived.WalkKit
import Derived.ProofKit
import Derived.OpenShut
import Derived.Handy
import Derived.Deep.LoopGhost
import Derived.Lib.Hide
import Derived.Lib.Strings
import Derived.SizedLaws
import Derived.Maps.Own
import Derived.Maps.OwnOps
import Derived.Maps.OwnSet
import Derived.Maps.RangeWalk
import Derived.Deep.Slices
import Derived.Laws.StructEq
import Derived.Deep.RegionHeld3
import Derived.Shelf.Strings.Builder1
import Derived.Shelf.Strings.Builder2
import Derived.Shelf.Small.Bits
import Derived.Shelf.Small.Wraps
import Derived.Shelf.Strings.BuilderF
import Derived.Shelf.Strings.BuilderK
import Derived.Shelf.Strings.Builder2Cap
import Derived.Shelf.Strconv.Itoa0
import Derived.Shelf.Sort.Plain
import Derived.Shelf.GgClosure.StringsIndexFunc
import Derived.Ground.GgwProg
import Derived.Shelf.GgClosure.StringsIndexFuncTop
import Derived.Shelf.GgClosure.StringsRunes
import Derived.Shelf.Strings.Prefix
import Derived.Shelf.Bits.Mul64
import Derived.Shelf.Strings.Repeat
import Derived.Shelf.Strings.BuilderCap
import Derived.Shelf.Slices.Equal
import Derived.Ground.Names2Prog
import Derived.Shelf.Slices.Clone
import Derived.Shelf.Slices.CompactS
import Derived.Shelf.Slices.SearchI
import Derived.Shelf.Slices.Cells
import Derived.Shelf.Slices.In.SortNone
import Derived.Shelf.Slices.Empties2
import Derived.Ground.SlgnProg
import Derived.Shelf.SlicesE.Equal
import Derived.Shelf.SlicesE.Compact
import Derived.Ground.SlgfProg
import Derived.Shelf.SlicesE.IndexFunc
import Derived.Shelf.SlicesE.DeleteFunc
import Derived.Test.YtofffmnkoelifaaProg
import Derived.Sort.Statements
import Derived.Lib.ConvBytes
import Derived.Lib.AppendZeros
import Derived.Lib.AppendZerosOnto
import Derived.Lib.LazyBuf
import Derived.Lib.SliceRun
import Derived.Shelf.SlIterI.Collect
import Derived.Shelf.SlIterI.Nil
import Derived.Ground.GgzProg
import Derived.Shelf.SlSortCmp.Whole1
import Derived.Ground.SlsfProg
import Derived.Shelf.SlSortCmp.NoneTotal
import Derived.Test.YtofffmnkoelifaaPk13
namespace Go.Proofs.Ytofffmnkoelifaa.pcnt
open Go.ChangeShapes Go.WideShapes Go.ChangeAt Go.RowKit Go.MapKept Go.ChangeMaps
open Go.Proofs.Ytofffmnkoelifaa.rc Go.Proofs.Ytofffmnkoelifaa.pd

/-! The plain half. -/
theorem note_false {S : List OneS} {id : Int} {m : MsgS} (h : noteB S id m = false) : noteS S id m = S := by
  unfold noteB at h
  unfold noteS
  by_cases h1 : id < 0
  · rw [if_pos h1]
  · rw [if_neg h1] at h ⊢
    by_cases h3 : m.kind = 3
    · rw [if_pos (.inl h3)] at h
      rw [if_pos h3]
      unfold endS
      rw [if_neg (beq_eq_false_iff_ne.1 h)]
    · by_cases h4 : m.kind = 4
      · rw [if_pos (.inr h4)] at h
        rw [if_neg h3, if_pos h4]
        unfold endS
        rw [if_neg (beq_eq_false_iff_ne.1 h)]
      · rw [if_neg (by omega)] at h
        rw [if_neg h3, if_neg h4]
        by_cases h2 : m.kind = 2
        · rw [if_pos h2] at h
          rw [if_neg (fun hh => beq_eq_false_iff_ne.1 h hh.2)]
        · rw [if_neg (fun hh => h2 hh.1)]
theorem note_len {S : List OneS} {id : Int} {m : MsgS} (h : noteB S id m = true) : (noteS S id m).length = if m.kind = 2 then S.length + 1 else S.length := by
  have he : ∀ a b, (endS S a b).length = S.length := fun a b => by unfold endS; split <;> simp
  unfold noteB at h
  unfold noteS
  by_cases h1 : id < 0
  · rw [if_pos h1] at h; cases h
  · rw [if_neg h1] at h ⊢
    by_cases h3 : m.kind = 3
    · rw [if_pos h3, if_neg (by omega)]; exact he _ _
    · by_cases h4 : m.kind = 4
      · rw [if_neg h3, if_pos h4, if_neg (by omega)]; exact he _ _
      · rw [if_neg (by omega)] at h
        by_cases h2 : m.kind = 2
        · rw [if_pos h2] at h
          rw [if_neg h3, if_neg h4, if_pos ⟨h2, by simpa using h⟩, if_pos h2]
          simp
        · rw [if_neg h2] at h; cases h
theorem cnt_all : ∀ (S : List OneS), (∀ x ∈ S, 1 ≤ x.st ∧ x.st ≤ 3) → cnt 1 S + cnt 2 S + cnt 3 S = S.length
  | [], _ => rfl
  | x :: S, h => by
    have h1 := cnt_split 1 [] S x
    have h2 := cnt_split 2 [] S x
    have h3 := cnt_split 3 [] S x
    have ih := cnt_all S (fun y hy => h y (List.mem_cons_of_mem _ hy))
    have hx := h x (List.mem_cons_self ..)
    simp only [List.nil_append] at h1 h2 h3
    rw [h1, h2, h3, List.length_cons]
    have : x.st = 1 ∨ x.st = 2 ∨ x.st = 3 := by omega
    rcases this with e | e | e <;> rw [e] <;> simp <;> omega
theorem pend_state {S : List OneS} {K : List Int} (hn : (S.map (·.id)).Nodup) (h : PendIs S K) : ∀ x ∈ K, stateS S x = 1 := fun x hx => by
  have h1 := h.perm.mem_iff.1 hx
  obtain ⟨y, hy, rfl⟩ := List.mem_map.1 h1
  rw [List.mem_filter] at hy
  rw [state_of hn hy.1]
  simpa using hy.2
theorem pend_nodup {S : List OneS} {K : List Int} (hn : (S.map (·.id)).Nodup) (h : PendIs S K) : K.Nodup :=
  h.perm.nodup_iff.2 (hn.sublist (List.filter_sublist.map _))
theorem pend_len {S : List OneS} {K : List Int} (h : PendIs S K) : K.length = cnt 1 S := by
  rw [h.perm.length_eq, List.length_map]; rfl
theorem pend_step {S : List OneS} {K : List Int} (hn : (S.map (·.id)).Nodup) (h : PendIs S K) (i : Nat) (hi : i + 1 < K.length) : dueS S K[i] ≤ dueS S K[i + 1] ∧ K[i] ≠ K[i + 1] := by
  have h1 := h.order i (i + 1) (by omega) hi
  rw [cmpS_lt] at h1
  refine ⟨by omega, fun e => ?_⟩
  have := (pend_nodup hn h)
  have h2 := List.pairwise_iff_getElem.1 this i (i + 1) (by omega) hi (by omega)
  exact h2 e

/-- A record that is noted, as an argument. -/
structure OpS where
  id : Int
  kind : Int
  due : Int
  ref : Int
  trim : Bool
def OpR : Reads OpS := fun _ cs o => cs = [.int .i64 o.id, .int .i64 o.kind, .int .i64 o.due, .int .i64 o.ref, .bool o.trim] ∧ o.id ≤ 9223372036854775807
set_option maxRecDepth 100000 in
theorem opens_op : Opens Try.prog 27 OpR := fun H enc w base sp held fuel cs x h => by
  obtain ⟨xs, n, _, _, hlen, hxl, hg⟩ := DataW.trod_struct Try.underlying27 h
  rw [show Try.prog.cellsOf 27 = 5 by kernel_rfl] at hlen
  match cs, hlen with
  | [c0, c1, c2, c3, c4], _ =>
    simp only [List.size_toArray, List.length_cons, List.length_nil] at hxl
    have g0 := hg 0 _ rfl
    have g1 := hg 1 _ rfl
    have g2 := hg 2 _ rfl
    have g3 := hg 3 _ rfl
    have g4 := hg 4 _ rfl
    clear hg
    rw [List.getElem?_eq_getElem (by omega)] at g0 g1 g2 g3 g4
    obtain ⟨a0, h0, _, q0⟩ := opens_int Try.underlying3 _ _ _ _ _ _ _ _ _ g0
    obtain ⟨a1, h1, _⟩ := opens_int Try.underlying3 _ _ _ _ _ _ _ _ _ g1
    obtain ⟨a2, h2, _⟩ := opens_int Try.underlying3 _ _ _ _ _ _ _ _ _ g2
    obtain ⟨a3, h3, _⟩ := opens_int Try.underlying3 _ _ _ _ _ _ _ _ _ g3
    obtain ⟨a4, h4⟩ := opens_bool Try.underlying4 _ _ _ _ _ _ _ _ _ g4
    refine ⟨⟨a0, a1, a2, a3, a4⟩, ?_, q0⟩
    have n1 : Try.prog.cellsOf 3 = 1 := by kernel_rfl
    have n2 : Try.prog.cellsOf 4 = 1 := by kernel_rfl
    unfold BoolR at h4
    simp [n1, n2] at h0 h1 h2 h3 h4
    subst h0 h1 h2 h3 h4
    rfl
abbrev opM (k d r : Int) : MsgS := ⟨k, 0, d, 0, r, 0, ⟨#[]⟩, ⟨#[]⟩, ⟨#[]⟩, []⟩
theorem build_msg (k d r : Int) (w : World) : (Instr.build 33 #[(0, .int .i64 k), (2, .int .i64 d), (4, .int .i64 r)]).run Try.prog w = .ok (.agg (msgA (opM k d r) (.slice none 0 0))) w := run_build w 33 _ _ (by kernel_rfl)
theorem build_msg2 (k d : Int) (w : World) : (Instr.build 33 #[(0, .int .i64 k), (2, .int .i64 d)]).run Try.prog w = .ok (.agg (msgA (opM k d 0) (.slice none 0 0))) w := run_build w 33 _ _ (by kernel_rfl)
theorem build_msg4 (k r : Int) (w : World) : (Instr.build 33 #[(0, .int .i64 k), (4, .int .i64 r)]).run Try.prog w = .ok (.agg (msgA (opM k 0 r) (.slice none 0 0))) w := run_build w 33 _ _ (by kernel_rfl)
set_option maxRecDepth 100000 in
set_option maxHeartbeats 2000000 in
theorem awake_any (W : World) : Calls Try.prog 8 #[] W fun e w' => e = .returned (.bool true) ∧ Calm W w' := by
  have b2 := build_msg2
  have b4 := build_msg4
  go_enter Try.func8, Try.ntmps8
  go_wp2_with fail
  refine (New_any _).mono ?_
  rintro e w1 ⟨p, mb, rfl, hs, hp, hm, hc⟩
  have H1 := box hs
  have C1 := box hc
  have Hm := box hm
  have n1 := box (Note_any p mb [] 5 (opM 2 9 0) (.slice none 0 0) w1 hs (by decide))
  rw [show noteS [] 5 (opM 2 9 0) = [⟨5, 1, 9⟩] from rfl, show noteB [] 5 (opM 2 9 0) = true from rfl] at n1
  clear hs hc hp hm
  go_wp2_with fail
  refine n1.out.mono ?_
  rintro e w2 ⟨rfl, hs, hk⟩
  have K2 := box hk
  have n2 := box (Note_any p mb [⟨5, 1, 9⟩] 6 (opM 3 0 5) (.slice none 0 0) w2 hs (by decide))
  rw [show noteS [⟨5, 1, 9⟩] 6 (opM 3 0 5) = [⟨5, 2, 0⟩] from rfl, show noteB [⟨5, 1, 9⟩] 6 (opM 3 0 5) = true from rfl] at n2
  clear hs hk n1
  go_wp2_with fail
  refine n2.out.mono ?_
  rintro e w3 ⟨rfl, hs, hk⟩
  have K3 := box (K2.out.trans' hk)
  have n3 := box (Note_any p mb [⟨5, 2, 0⟩] 7 (opM 4 0 5) (.slice none 0 0) w3 hs (by decide))
  rw [show noteS [⟨5, 2, 0⟩] 7 (opM 4 0 5) = [⟨5, 2, 0⟩] from rfl, show noteB [⟨5, 2, 0⟩] 7 (opM 4 0 5) = false from rfl] at n3
  clear hs hk n2
  go_wp2_with fail
  refine n3.out.mono ?_
  rintro e w4 ⟨rfl, hs, hk⟩
  have K4 := box (K3.out.trans' hk)
  have n4 := box (State_any p mb [⟨5, 2, 0⟩] 5 w4 hs)
  rw [show stateS [⟨5, 2, 0⟩] 5 = 2 from rfl] at n4
  clear hs hk n3
  go_wp2_with fail
  refine n4.out.mono ?_
  rintro e w5 ⟨rfl, rfl⟩
  go_wp2_with fail
  go_ret
  exact ⟨rfl, Below.trans C1.out (K4.out.below (B := W.heap.size) C1.out.size (fun b e => by have := Hm.out; omega))⟩
set_option maxRecDepth 100000 in
set_option maxHeartbeats 16000000 in
theorem walk (W : World) (v : Value) (l : List OpS) (hv : RowsAt OpR 5 W v l) :
    Calls Try.prog 3 #[v] W fun e W' => e = .returned (.bool true) ∧ Calm W W' := by
  obtain ⟨a, cap, rfl, hlc, hcm, hrow⟩ := hv
  have HR := box hrow
  have b3 := build_msg
  unfold maxLen at hcm
  clear hrow
  go_enter Try.func3, Try.ntmps3
  go_wp2_with fail
  refine (awake_any _).mono ?_
  rintro e w1 ⟨rfl, hc1⟩
  have C1 := box hc1
  clear hc1
  by_cases h200 : 200 < l.length
  · go_wp2_with fail
    go_ret
    exact ⟨rfl, C1.out⟩
  · go_wp2_with fail
    refine (New_any _).mono ?_
    rintro e w2 ⟨p, mb, rfl, hs, hp, hm, hc⟩
    have H2 := box hs
    have C2 := box (C1.out.trans hc)
    have Hm := box (show W.heap.size ≤ mb from Nat.le_trans C1.out.size hm)
    clear hs hc hp hm
    go_wp2_with fail
    go_loopw [4, 28] (fun m i wr => ∃ (k : Nat) (S : List OneS), k ≤ l.length ∧ i = .int .i64 k ∧ m = .int .i64 (S.length : Nat) ∧ S.length ≤ k ∧ SetIn wr p mb S ∧ Calm W wr) (fun _ i _ => l.length - (intOf i).toNat)
    case atStart => exact ⟨0, [], Nat.zero_le _, rfl, rfl, Nat.le_refl _, H2.out, C2.out⟩
    case round =>
      obtain ⟨k, S, hk, rfl, rfl, hSk, hset, hcal⟩ := hrel
      have HS := box hset
      have HC := box hcal
      have hSl : S.length ≤ 1000000 := by omega
      by_cases hlt : k < l.length
      · obtain ⟨b, off, cs, rfl, hb, _, hcell, hop⟩ := HR.out k hlt
        obtain ⟨hcs, hid⟩ := hop
        have hcc := fun j (hj : j < 5) => (hcal.cell (p := ⟨b, off + k * 5 + j, none⟩) hb).trans (hcell j hj)
        rw [hcs] at hcc
        obtain ⟨o, ho⟩ : ∃ o, l[k] = o := ⟨_, rfl⟩
        rw [ho] at hcc hid
        obtain ⟨id, kd, du, rf, tr⟩ := o
        have d0 : wr.cell? ⟨b, off + k * 5, none⟩ = some (.int .i64 id) := hcc 0 (by decide)
        have d1 : wr.cell? ⟨b, off + k * 5 + 1, none⟩ = some (.int .i64 kd) := hcc 1 (by decide)
        have d2 : wr.cell? ⟨b, off + k * 5 + 2, none⟩ = some (.int .i64 du) := hcc 2 (by decide)
        have d3 : wr.cell? ⟨b, off + k * 5 + 3, none⟩ = some (.int .i64 rf) := hcc 3 (by decide)
        have d4 : wr.cell? ⟨b, off + k * 5 + 4, none⟩ = some (.bool tr) := hcc 4 (by decide)
        have hbl : b < wr.heap.size := Nat.lt_of_lt_of_le hb hcal.size
        have HX := box (heap_new wr (.cells #[.int .i64 id, .int .i64 kd, .int .i64 du, .int .i64 rf, .bool tr] 27))
        have hcx : Calm wr (wr.alloc (.cells #[.int .i64 id, .int .i64 kd, .int .i64 du, .int .i64 rf, .bool tr] 27)) := (Calm.refl wr).alloc _
        have hcnt := box (Counts_any p mb S _ (hset.calm hcx) hSl)
        have hall := box (cnt_all S hset.ok)
        have Cx := box hcx
        clear hcc hcs ho hcell hset hcal hcx
        go_wp2_with fail
        refine hcnt.out.mono ?_
        rintro e w3 ⟨rfl, hc3⟩
        have H3 := box (HS.out.calm (Cx.out.trans hc3))
        have X3 := box (heap_calm hc3 HX.out)
        have C3 := box ((HC.out.trans Cx.out).trans hc3)
        have hxm : wr.heap.size ≠ mb := by have := HS.out.map.lt; omega
        have hnote := box (Note_any p mb S id (opM kd du rf) (.slice none 0 0) w3 H3.out hid)
        have e0 := cell_of X3.out 0
        have e1 := cell_of X3.out 1
        have e2 := cell_of X3.out 2
        have e3 := cell_of X3.out 3
        have hlx := heap_lt X3.out
        clear d0 d1 d2 d3 d4 hbl hc3 hcnt
        go_wp2_with fail
        refine hnote.out.mono ?_
        rintro e w4 ⟨rfl, hs4, hk4⟩
        have hf := note_false (S := S) (id := id) (m := opM kd du rf)
        have hln := note_len (S := S) (id := id) (m := opM kd du rf)
        obtain ⟨S', hS'⟩ : ∃ S', noteS S id (opM kd du rf) = S' := ⟨_, rfl⟩
        rw [hS'] at hs4 hf hln
        obtain ⟨did, hd⟩ : ∃ did, noteB S id (opM kd du rf) = did := ⟨_, rfl⟩
        rw [hd] at hf hln ⊢
        have hS1 : S'.length ≤ S.length + 1 := by
          cases did
          · rw [hf rfl]; omega
          · rw [hln rfl]; split <;> omega
        have hcnt2 := box (Counts_any p mb S' w4 hs4 (by omega))
        have hall2 := box (cnt_all S' hs4.ok)
        have H4 := box hs4
        have X4 := box ((hk4.block _ (heap_lt X3.out) hxm).trans X3.out)
        have C4 := box (show Calm W w4 from Below.trans C3.out (hk4.below (B := W.heap.size) C3.out.size (fun b e => by have := Hm.out; omega)))
        have Hf := box hf
        have Hln := box hln
        clear hf hln hs4 hk4 e0 e1 e2 e3 hlx hnote hS' hd
        go_wp2_with fail
        refine hcnt2.out.mono ?_
        rintro e w5 ⟨rfl, hc5⟩
        have H5 := box (H4.out.calm hc5)
        have X5 := box (heap_calm hc5 X4.out)
        have C5 := box (C4.out.trans hc5)
        have e1 := cell_of X5.out 1
        have hlx := heap_lt X5.out
        have q1 := cnt_le 1 S'
        have q2 := cnt_le 2 S'
        have q3 := cnt_le 3 S'
        clear hcnt2 hc5
        cases did
        · obtain rfl := Hf.out rfl
          have hs := hall2.out
          obtain ⟨c1, hc1⟩ : ∃ c, cnt 1 S' = c := ⟨_, rfl⟩
          obtain ⟨c2, hc2⟩ : ∃ c, cnt 2 S' = c := ⟨_, rfl⟩
          obtain ⟨c3, hc3⟩ : ∃ c, cnt 3 S' = c := ⟨_, rfl⟩
          rw [hc1, hc2, hc3] at hs
          rw [hc1] at q1
          rw [hc2] at q2
          rw [hc3] at q3
          simp only [hc1, hc2, hc3]
          have hsum : (((c1 : Int) + c2 + c3) == ((S'.length : Nat) : Int)) = true := by rw [beq_iff_eq]; omega
          have hsum2 : (((c1 : Int) + c2 + c3) != ((S'.length : Nat) : Int)) = false := by rw [bne, hsum]; rfl
          clear hc1 hc2 hc3
          go_wp2_with fail
          go_roundw
          case rel => exact ⟨k + 1, S', by omega, by go_num, rfl, by omega, H5.out, C5.out⟩
          case measure => simp [intOf]; omega
        · have hl2 : S'.length = if kd = 2 then S.length + 1 else S.length := Hln.out rfl
          have hs := hall2.out
          obtain ⟨c1, hc1⟩ : ∃ c, cnt 1 S' = c := ⟨_, rfl⟩
          obtain ⟨c2, hc2⟩ : ∃ c, cnt 2 S' = c := ⟨_, rfl⟩
          obtain ⟨c3, hc3⟩ : ∃ c, cnt 3 S' = c := ⟨_, rfl⟩
          rw [hc1, hc2, hc3] at hs
          rw [hc1] at q1
          rw [hc2] at q2
          rw [hc3] at q3
          simp only [hc1, hc2, hc3]
          clear hc1 hc2 hc3
          by_cases hk2 : kd = 2
          · rw [if_pos hk2] at hl2
            subst hk2
            have hsum : (((c1 : Int) + c2 + c3) == (((S.length : Nat) : Int) + 1)) = true := by rw [beq_iff_eq]; omega
            have hsum2 : (((c1 : Int) + c2 + c3) != (((S.length : Nat) : Int) + 1)) = false := by rw [bne, hsum]; rfl
            go_wp2_with fail
            go_roundw
            case rel => exact ⟨k + 1, S', by omega, by go_num, val_int (by rw [hl2]; omega), by omega, H5.out, C5.out⟩
            case measure => simp [intOf]; omega
          · rw [if_neg hk2] at hl2
            have hkb : (kd == 2) = false := beq_eq_false_iff_ne.2 hk2
            have hsum : (((c1 : Int) + c2 + c3) == ((S.length : Nat) : Int)) = true := by rw [beq_iff_eq]; omega
            have hsum2 : (((c1 : Int) + c2 + c3) != ((S.length : Nat) : Int)) = false := by rw [bne, hsum]; rfl
            go_wp2_with fail
            go_roundw
            case rel => exact ⟨k + 1, S', by omega, by go_num, val_int (by rw [hl2]), by omega, H5.out, C5.out⟩
            case measure => simp [intOf]; omega
      · obtain rfl : k = l.length := by omega
        have hpend := box (Pending_any p mb S wr hset hSl)
        clear hset hcal
        go_wp2_with fail
        refine hpend.out.mono ?_
        rintro e w3 ⟨v, K, rfl, hpi, hz, hc3⟩
        obtain ⟨za, zcap, rfl, hzc⟩ := hz
        have HZ := box hzc
        have H3 := box (HS.out.calm hc3)
        have C3 := box (HC.out.trans hc3)
        have hcnt := box (Counts_any p mb S w3 H3.out hSl)
        have hKl := pend_len hpi
        have hq := cnt_le 1 S
        have hKs := box (pend_state HS.out.nodup hpi)
        have hKst := box (fun i hi => pend_step HS.out.nodup hpi i hi)
        obtain ⟨n1, hn1⟩ : ∃ c, cnt 1 S = c := ⟨_, rfl⟩
        rw [hn1] at hKl hq hcnt
        clear hzc hc3 hpend hpi hn1
        go_wp2_with fail
        refine hcnt.out.mono ?_
        rintro e w4 ⟨rfl, hc4⟩
        have H4 := box (H3.out.calm hc4)
        have C4 := box (C3.out.trans hc4)
        have HZ4 := box (show ∀ k (hk : k < K.length), ∃ g, za = some ⟨g, 0, none⟩ ∧ g < w4.heap.size ∧ w4.cell? ⟨g, k, none⟩ = some (.int .i64 K[k]) from fun k hk => by
          obtain ⟨g, h1, h2, h3⟩ := HZ.out k hk
          exact ⟨g, h1, Nat.lt_of_lt_of_le h2 hc4.size, (hc4.cell (p := ⟨g, k, none⟩) h2).trans h3⟩)
        clear hc4 hcnt
        go_wp2_with fail
        go_loopw [98] (fun i wr' => wr' = w4 ∧ ∃ k : Nat, k ≤ K.length ∧ i = .int .i64 k) (fun i _ => K.length - (intOf i).toNat)
        case atStart => exact ⟨by first | rfl | trivial, 0, Nat.zero_le _, rfl⟩
        case round =>
          obtain ⟨rfl, j, hj, rfl⟩ := hrel
          by_cases hjl : j < K.length
          · obtain ⟨g, rfl, hg, hcj⟩ := HZ4.out j hjl
            have hst := box (State_any p mb S K[j] _ H4.out)
            rw [hKs.out _ (List.getElem_mem hjl)] at hst
            by_cases hj0 : j = 0
            · subst hj0
              obtain ⟨x, hx⟩ : ∃ x, K[0] = x := ⟨_, rfl⟩
              rw [hx] at hcj hst
              clear hx
              go_wp2_with fail
              refine hst.out.mono ?_
              rintro e w5 ⟨rfl, rfl⟩
              go_wp2_with fail
              go_roundw
              case rel => exact ⟨by first | rfl | trivial, 1, by omega, by first | rfl | go_num⟩
              case measure => simp [intOf]; omega
            · obtain ⟨i, rfl⟩ : ∃ i, j = i + 1 := ⟨j - 1, by omega⟩
              obtain ⟨g', hg', _, hci⟩ := HZ4.out i (by omega)
              cases hg'
              obtain ⟨s1, s2⟩ := hKst.out i hjl
              have hd1 := box (Due_any p mb S K[i] _ H4.out)
              have hd2 := box (Due_any p mb S K[i + 1] _ H4.out)
              have hwr : IntKind.i64.wrap (((i + 1 : Nat) : Int) - 1) = i := by rw [IntWalk.i64_in _ (by omega)]; omega
              have hwr2 : (((i + 1 : Nat) : Int) - 1) = i := by omega
              obtain ⟨x, hx⟩ : ∃ x, K[i] = x := ⟨_, rfl⟩
              obtain ⟨y, hy⟩ : ∃ x, K[i + 1] = x := ⟨_, rfl⟩
              rw [hx] at hci s1 s2 hd1
              rw [hy] at hcj hst s1 s2 hd2
              obtain ⟨u, hu⟩ : ∃ u, dueS S x = u := ⟨_, rfl⟩
              obtain ⟨z, hz⟩ : ∃ u, dueS S y = u := ⟨_, rfl⟩
              rw [hu] at s1 hd1
              rw [hz] at s1 hd2
              have t1 : decide (z < u) = false := decide_eq_false (by omega)
              have t2 : (x == y) = false := beq_eq_false_iff_ne.2 s2
              clear hx hy hu hz
              go_wp2_with fail
              refine hst.out.mono ?_
              rintro e w5 ⟨rfl, rfl⟩
              go_wp2_with fail
              refine hd1.out.mono ?_
              rintro e w5 ⟨rfl, rfl⟩
              go_wp2_with fail
              refine hd2.out.mono ?_
              rintro e w5 ⟨rfl, rfl⟩
              go_wp2_with fail
              go_roundw
              case rel => exact ⟨by first | rfl | trivial, i + 2, by omega, by first | rfl | go_num⟩
              case measure => simp [intOf]; omega
          · obtain rfl : j = K.length := by omega
            have hfin : (((K.length : Nat) : Int) == ((n1 : Nat) : Int)) = true := by rw [beq_iff_eq]; omega
            go_wp2_with fail
            go_ret
            first | exact ⟨rfl, C4.out⟩ | exact ⟨ret_bool hfin, C4.out⟩
theorem own : ownKnob Try.prog.godebug = none := by kernel_rfl
theorem laidOut : laidOutB Try.prog = true := by kernel_rfl
set_option maxRecDepth 100000 in
set_option linter.unusedVariables false in
theorem lifted (os : Os) (started : os.Started) (H : Type) (enc : TypeId × Value → H) :
    ReturnsInHanded {} Try.checked os 3 .any (Rows.pendCountsSpec.pre6 enc Try.prog Try.f3 Rows.pendCountsRow.domain false) (Rows.pendCountsSpec.post enc Try.prog Try.f3 false true false false) := by
  refine returnsInHanded_of_change_sized (C := Try.checked) own started (by kernel_rfl) Try.func3
    (ChangeSpec.witness6 (enc := enc) (C := Try.checked) false ⟨#[], #[.slice none 0 0], []⟩ 8 (by kernel_rfl) (by kernel_rfl) (by kernel_rfl) (by kernel_rfl)) ?_
  intro W base args ds gs before hval0 hW hcnd hsz0 _
  have hsz : (DataW.weightsEach Try.prog (Try.f3.params.toList ++ []) (ds ++ gs)).all (· ≤ reachBytes) = true := hsz0
  clear hsz0
  have hval : ∀ (j : Nat) t v, Try.f3.params[j]? = some t → args[j]? = some v → Value.okWide Try.prog W .any base t v := hval0
  have hW' := hW
  obtain ⟨p, q, hA0, hV, rfl, hfz, hnd⟩ := hW
  have hA : DataW.TrodAll enc Try.prog W 0 (fun _ => true) true Try.f3.params.toList args.toList ds p := hA0
  rw [Try.params3] at hA hval hsz
  obtain ⟨v0, vs0, d0, ds0, p0, q0, hargs, rfl, rfl, h0, r0'⟩ := trodAll_cons hA
  obtain ⟨rfl, rfl, rfl⟩ := trodAll_nil r0'
  obtain rfl : args = #[v0] := by cases args; simp_all
  obtain ⟨rfl, rfl⟩ := trodVars_none hV
  clear hA0 hval0
  have wt0 := fun n hn => (by simpa using List.all_eq_true.1 hsz n (DataW.weights_mem_each (j := 0) rfl rfl n hn) : n ≤ reachBytes)
  have hlt : ∀ x ∈ p0 ++ [], x.block < W.heap.size := fun x hx => by have := hW'.lt x (by simpa using hx); simpa using this
  obtain ⟨l0, r0⟩ := slice_arg Try.underlying22 (hval 0 22 v0 rfl rfl) ((opens_slice (c := 5) Try.underlying22 (by kernel_rfl) (by decide) (opens_op)).arg h0)
  refine (walk W v0 l0 r0).mono fun e W' ⟨he, hg⟩ => ?_
  subst he
  refine ⟨_, rfl, _, _, _, [] ++ [], p0 ++ [], [], hW', ?_, ?_, ?_, hg.frame _, fun h => by cases h⟩
  · exact trodAll_mk1 (shut_bool Try.underlying4 true)
  · exact trodAll_cons_mk (Below.trod laidOut (by kernel_rfl) (of_decide_eq_true (by kernel_rfl)) h0 hg (fun x hx => hlt x (by simp [hx]))) (trodAll_mk0)
  · exact rfl

theorem over : Rows.pendCountsRow.holds Try.pinned (OpenSpec.ofChange Rows.pendCountsSpec) :=
  OpenClaim.holds_of_wide 3 Try.f3 rfl rfl rfl rfl rfl rfl rfl ⟨rfl, rfl, rfl, rfl, rfl⟩ rfl rfl rfl rfl rfl (by kernel_rfl) Try.func3 (by kernel_rfl)
    (of_decide_eq_true (by kernel_rfl)) (by unfold Func.isWrapper; first | (rw [if_pos (by decide +kernel)]; kernel_rfl) | (rw [if_neg (by decide +kernel)]; exact ⟨rfl, rfl⟩))
    (fun os started H enc _ => lifted os started H enc)

theorem proved : Rows.PendCountsSaid := over
#print axioms proved
end Go.Proofs.Ytofffmnkoelifaa.pcnt
