/- TlogOrder: however records are put, by the time the hand is at the last one all were told, once, by rising due times, and no slot has anything. No condition. -/
import Derived.Test.YtccbfekajbnehaaRows
import Derived.WalkKit
import Derived.ProofKit
import Derived.OpenShut
import Derived.Handy
import Derived.Deep.LoopGhost
import Derived.Lib.Hide
import Derived.Lib.Strings
import Derived.SizedLaws
import Derived.Maps.Own
import Derived.Maps.OwnOps
import Derived.Maps.OwnSet
import Derived.Maps.RangeWalk
import Derived.Deep.QuietTactic
import Derived.BigQuiet
import Derived.Deep.RegionHeld3
import Derived.Lib.ConvBytes
import Derived.Lib.AppendZeros
import Derived.Lib.AppendZerosOnto
import Derived.Lib.LazyBuf
import Derived.Shelf.Abstract
import Derived.LaidEql
import Derived.Lib.SliceRun
import Derived.StillTailTactics
import Derived.Deep.Slices
import Derived.Shelf.SlIter.Nil
import Derived.Ground.GgzProg
import Derived.Shelf.SortM.Plain
import Derived.Shelf.SortM.SortNone
import Derived.Ground.SlgmProg
import Derived.Shelf.SlicesE.DeleteFunc
import Derived.Ground.SlgfProg
import Derived.Test.YtccbfekajbnehaaProg
import Derived.Shelf.Strings.Builder1
import Derived.Shelf.Small.Bits
import Derived.Shelf.Strings.BuilderF
import Derived.Shelf.Strings.BuilderK
import Derived.Shelf.Strconv.Itoa0
import Derived.Shelf.Sort.Plain
import Derived.Shelf.Strings.Prefix
import Derived.Shelf.Strings.BuilderCap
import Derived.Shelf.Slices.In.SortNone
import Derived.Shelf.SlicesE.IndexFunc
import Derived.Laws.MakeOwn
import Derived.Lib.Builder
import Derived.Lib.AppendStr
import Derived.Shelf.SlicesQ.Reverse
import Derived.Ground.SlgnProg
import Derived.OwnWalk
import Derived.Deep.CutRange
import Derived.Deep.CutBlock
import Derived.Test.YtccbfekajbnehaaPk18
namespace Go.Proofs.Ytccbfekajbnehaa.torder
open Go.ChangeShapes Go.WideShapes Go.ChangeAt Go.RowKit
open Go.Proofs.Ytccbfekajbnehaa.dk Go.Proofs.Ytccbfekajbnehaa.tl Go.Proofs.Ytccbfekajbnehaa.wh

theorem room_at {k s : Nat} (hk : k ≤ 40) (hs : s ≤ 300) : Room 1048576 k s := by
  have : k * s ≤ 40 * 300 := Nat.mul_le_mul hk hs
  exact ⟨by omega, by omega, by omega⟩
set_option maxRecDepth 100000 in
set_option maxHeartbeats 60000000 in
theorem walk (W : World) (v : Value) (l : List Int) (r : RowsAt (IntR .u16) 1 W v l) :
    Calls Try.prog 5 #[v] W fun e W' => e = .returned (.bool true) ∧ Calm W W' := by
  obtain ⟨a, cap, rfl, hml, hel⟩ := r.nums
  have Hel := box hel
  clear hel r
  unfold maxLen at hml
  go_enter Try.func5, Try.ntmps5
  go_wp2_with fail
  refine (tl.awake_any _).mono ?_
  rintro e w1 ⟨rfl, hca⟩
  have O1 := box ((Owns.refl W).calm' hca)
  clear hca
  by_cases h40 : 40 < l.length
  · go_wp2_with fail
    go_ret
    exact ⟨rfl, O1.out.calm⟩
  · have hn : l.length ≤ 40 := by omega
    clear hml h40
    go_wp2_with fail
    refine (New_ok _ 1048576).mono ?_
    rintro e w2 ⟨p, F, rfl, h2, hc2, hF2⟩
    have H2 := box h2
    have O2 := box (O1.out.new hc2 hF2)
    clear h2 hc2 hF2
    go_wp2_with fail
    refine (TlS.new (w0 := W) (.inr (.inl rfl)) 0 H2.out (by decide) O2.out).mono ?_
    rintro e w3 ⟨q, x, rfl, h3⟩
    have H3 := box h3
    clear h3 H2 O2 O1
    go_wp2_with fail
    go_loopw [5, 32] (fun tv iv wr => ∃ (k last : Nat) (P : List (Nat × Nat)), k ≤ l.length ∧ iv = .int .i64 k ∧ tv = .int .i64 last ∧ last ≤ 300 ∧ P.length = k ∧ Box ((∀ y ∈ P, 1 ≤ y.1 ∧ y.1 ≤ last ∧ y.2 < k) ∧ Parts k [] P) ∧ TlS 1048576 p q x P 0 k 0 W wr) (fun _ iv _ => l.length - (intOf iv).toNat)
    case atStart => exact ⟨0, 0, [], Nat.zero_le _, rfl, rfl, Nat.zero_le _, rfl, box ⟨fun y hy => absurd hy List.not_mem_nil, rfl, List.nodup_nil⟩, H3.out⟩
    case round =>
      clear H3
      obtain ⟨k, last, P, hk, rfl, rfl, hl3, hPk, HP, hS⟩ := hrel
      have HS := box hS
      clear hS
      obtain ⟨wo, hwo⟩ : ∃ wo : World, wo = wr := ⟨_, rfl⟩
      subst hwo
      by_cases hlt : k < l.length
      · obtain ⟨lb, loff, rfl, hlb, hc0, hx0, hx1⟩ := Hel.out k hlt
        have d0 := (HS.out.owns.cell (p := ⟨lb, loff + k, none⟩) hlb).trans hc0
        have hlbo := Nat.lt_of_lt_of_le hlb HS.out.owns.size
        have hx0' : 0 ≤ l[k] := hx0
        have hx1' : l[k] ≤ 65535 := hx1
        obtain ⟨z, hz⟩ : ∃ z : Nat, l[k] = z := ⟨l[k].toNat, by omega⟩
        rw [hz] at d0 hx1'
        clear hz hc0 hx0 hx1 hx0'
        have hz2 : z ≤ 65535 := by omega
        have hmod : Int.tmod (z : Int) 300 = ((z % 300 : Nat) : Int) := by rw [Int.tmod_eq_emod_of_nonneg (by omega)]; omega
        obtain ⟨y, hy⟩ : ∃ y, z % 300 = y := ⟨_, rfl⟩
        have hy3 : y < 300 := by omega
        rw [hy] at hmod
        clear hy
        have hput := box (HS.out.put (room_at (by omega) (by decide)) (1 + y) k (by omega) (by omega) (by omega))
        have hcast : ((1 + y : Nat) : Int) = 1 + (y : Int) := by omega
        rw [hcast] at hput
        clear hcast
        go_wp2_with fail
        refine hput.out.mono ?_
        rintro e w5 ⟨rfl, h5, _⟩
        have HS5 := box h5
        have HP5 := box (show (∀ u ∈ P ++ [(1 + y, k)], 1 ≤ u.1 ∧ u.1 ≤ max last (1 + y) ∧ u.2 < k + 1) ∧ Parts (k + 1) [] (P ++ [(1 + y, k)]) from ⟨fun u hu => by
          rcases List.mem_append.1 hu with hu | hu
          · have := HP.out.1 u hu; omega
          · rw [List.mem_singleton] at hu; subst hu; exact ⟨Nat.le_add_right _ _, Nat.le_max_right _ _, Nat.lt_succ_self _⟩, Parts.put hPk (fun u hu => (HP.out.1 u hu).2.2) HP.out.2 _⟩)
        clear h5 hput
        go_wp2_with fail
        go_roundw
        case rel => exact ⟨k + 1, max last (1 + y), P ++ [(1 + y, k)], by omega, by go_num, val_int (by omega), by omega, by rw [List.length_append, List.length_singleton]; omega, HP5, HS5.out⟩
        case measure => simp [intOf]; omega
      · obtain rfl : k = l.length := by omega
        have HM := box (MapIs.made wo (.int .i64))
        have hmm := @run_makeMap Try.prog
        have HS1 := box (HS.out.calm ((Calm.refl wo).alloc (.map #[] 0)))
        have Hfar := box HS.out.owns.size
        go_wp2_with fail
        go_loopg [10] (last + 1) (fun g wv wr => ∃ (t was : Nat) (T : List Nat) (P2 : List (Nat × Nat)), g + t = last + 1 ∧ t ≤ last ∧ wv = .int .i64 was ∧ was ≤ t ∧ Box ((∀ y ∈ P2, y.1 ≤ last) ∧ Parts l.length T P2) ∧ P2.length ≤ l.length ∧ TlS 1048576 p q x P2 t l.length t W wr ∧ MapIs wr wo.heap.size (.int .i64) (seenM T))
        case atStart => exact ⟨0, 0, [], P, by omega, Nat.zero_le _, rfl, Nat.le_refl _, box ⟨fun y hy => (HP.out.1 y hy).2.1, HP.out.2⟩, by omega, HS1.out, HM.out⟩
        case round =>
          clear HM HS1 HS HP hmm
          obtain ⟨t, was, T, P2, hg, ht, rfl, hwas, HP, hP2, hS, hM⟩ := hrel
          have HS := box hS
          have HM := box hM
          clear hS hM
          obtain ⟨wi, hwi⟩ : ∃ wi : World, wi = wr := ⟨_, rfl⟩
          subst hwi
          by_cases hgo : t < last
          · have hnext := box (HS.out.next (room_at hn (by omega)) (by omega) (last : Int) (by omega))
            go_wp2_with fail
            refine hnext.out.mono ?_
            rintro e w5 ⟨gv, L, rfl, hm5, hfr5, hL5, _, h5, hF5⟩
            have HS5 := box h5
            have HM5 := box (HM.out.same (hF5 _ (seen_free HM.out)))
            have HP5 := box (show (∀ y ∈ P2.filter (fun y => !(y.1 == t + 1)), y.1 ≤ last) ∧ Parts l.length (T ++ L.map fun m => m.rc.place) (P2.filter fun y => !(y.1 == t + 1)) from ⟨fun y hy => HP.out.1 y (List.mem_filter.1 hy).1, by
              have := HP.out.2.tick (fun y => y.1 == t + 1)
              rw [← hL5, List.map_map] at this
              exact this⟩)
            have HD5 := box (show ∀ m ∈ L, m.rc.due = t + 1 from fun m hm => by
              have hmem : (m.rc.due, m.rc.place) ∈ P2.filter (fun y => y.1 == t + 1) := by rw [← hL5]; exact List.mem_map.2 ⟨m, hm, rfl⟩
              simpa using (List.mem_filter.1 hmem).2)
            have hLl : L.length ≤ 40 := by
              have h1 := congrArg List.length hL5
              rw [List.length_map] at h1
              have h2 := List.length_filter_le (fun y : Nat × Nat => y.1 == t + 1) P2
              omega
            have hPl5 : (P2.filter fun y => !(y.1 == t + 1)).length ≤ l.length := Nat.le_trans (List.length_filter_le _ _) hP2
            obtain ⟨P3, hP3⟩ : ∃ P3, P2.filter (fun y => !(y.1 == t + 1)) = P3 := ⟨_, rfl⟩
            rw [hP3] at HS5 HP5 hPl5
            have HG5 := box hm5
            have HF5 := box hfr5
            obtain ⟨ga, gcap, hgv, _⟩ := hm5
            subst hgv
            have Hmlt := box HM.out.lt
            clear h5 hF5 hL5 hnext hP3 hfr5 HS HM HP hP2
            obtain ⟨s, hs⟩ : ∃ s, t + 1 = s := ⟨_, rfl⟩
            rw [hs] at HS5 HD5
            have hsl : s ≤ last := by omega
            have hws : was ≤ s := by omega
            have hgs : gk + s = last + 2 := by omega
            clear hg hwas hs ht hgo
            have Hg := box hgs
            go_wp2_with fail
            go_loopw [10, 64] (fun wv jv wr => ∃ j was : Nat, j ≤ L.length ∧ jv = .int .i64 j ∧ wv = .int .i64 was ∧ was ≤ s ∧ TlS 1048576 p q x P3 s l.length s W wr ∧ MapIs wr wo.heap.size (.int .i64) (seenM (T ++ (L.map fun m => m.rc.place).take j)) ∧ MarksAt wr (.slice ga L.length gcap) L) (fun _ jv _ => L.length - (intOf jv).toNat)
            case atStart => exact ⟨0, was, Nat.zero_le _, rfl, rfl, hws, HS5.out, by rw [List.take_zero, List.append_nil]; exact HM5.out, HG5.out⟩
            case round =>
              clear HS5 HM5 HG5 hgs hws
              obtain ⟨j, was, hj, rfl, rfl, hws, hS, hM, hG⟩ := hrel
              have HS := box hS
              have HM := box hM
              have HG := box hG
              obtain ⟨_, _, he, hcells⟩ := id hG
              cases he
              have Hcells := box hcells
              clear hS hM hG hcells
              obtain ⟨wj, hwj⟩ : ∃ wj : World, wj = wr := ⟨_, rfl⟩
              subst hwj
              by_cases hjl : j < L.length
              · obtain ⟨gb, rfl, hgl, q0, q1, q2, q3⟩ := Hcells.out j hjl
                have hd := HD5.out _ (List.getElem_mem hjl)
                have hfr := fresh_at HP5.out.2.nodup_left j (by rw [List.length_map]; exact hjl)
                rw [List.getElem_map] at hfr
                have htk : (L.map fun m => m.rc.place).take (j + 1) = (L.map fun m => m.rc.place).take j ++ [L[j].rc.place] := by
                  rw [List.take_succ_eq_append_getElem (by rw [List.length_map]; exact hjl), List.getElem_map]
                obtain ⟨⟨⟨md, mp, mq⟩, ma⟩, hmm⟩ : ∃ z, L[j] = z := ⟨_, rfl⟩
                simp only [hmm] at q0 q1 q2 q3 hd hfr htk
                subst hd
                have hnw : ¬ ((md : Int) < (was : Int)) := by omega
                have hA := (Calm.refl wj).alloc (.cells #[.int .i64 (md : Int), .int .i64 (mp : Int), .int .i64 (ma : Int), .int .i64 (mq : Int)] 36)
                have HA := box hA
                have hlook := fun n => seen_miss (HM.out.calm (hA.drewN n)) mp hfr
                have hhand := box (fun n => (HS.out.calm (hA.drewN n)).hand)
                have Hfr := box hfr
                have Htk := box htk
                clear hA hfr htk hmm
                go_upto_region 26 with fail
                go_quiet ((go_at_call 13; exact Calls.quiet_of_same ((hhand.out _).mono fun _ _ ⟨h1, h2⟩ => ⟨h1, h2.symm⟩)))
                have hAq := HA.out.drewN nq
                have jq := heap_new wj (.cells #[.int .i64 (md : Int), .int .i64 (mp : Int), .int .i64 (ma : Int), .int .i64 (mq : Int)] 36)
                have Hjq := box (show ((wj.alloc (.cells #[.int .i64 (md : Int), .int .i64 (mp : Int), .int .i64 (ma : Int), .int .i64 (mq : Int)] 36)).drewN nq).heap[wj.heap.size]? = _ from jq)
                generalize (wj.alloc (.cells #[.int .i64 (md : Int), .int .i64 (mp : Int), .int .i64 (ma : Int), .int .i64 (mq : Int)] 36)).drewN nq = wq at hAq Hjq ⊢
                have HAq := box hAq
                have HMq := box (HM.out.calm hAq)
                have HSq := box (HS.out.calm hAq)
                have HGq := box (HG.out.calm hAq)
                obtain ⟨o, hupd, hmap2⟩ := seen_add HMq.out mp Hfr.out
                have hke : Keeps (fun b => b = wo.heap.size) wq (ChangeMaps.setBlock wq wo.heap.size o) := Keeps.setObj (F := fun b => b = wo.heap.size) (Keeps.refl _ _) (.inl rfl) o
                have HM2 := box hmap2
                have HS2 := box (HSq.out.keep hke (fun b e => ⟨by subst e; exact Hfar.out, by subst e; exact seen_free HMq.out⟩))
                have HG2 := box (HGq.out.keep hke (fun b hb e => by have := HF5.out b hb; have := Hmlt.out; omega))
                have j2 := (heap_put_other wq (b := wo.heap.size) o (show wj.heap.size ≠ wo.heap.size from fun e => by have := HM.out.lt; omega)).trans Hjq.out
                have g0 := cell_of Hjq.out 0
                have g1 := cell_of Hjq.out 1
                have g2 := heap_lt Hjq.out
                have k0 := cell_of j2 0
                have k1 := cell_of j2 1
                have k2 := heap_lt j2
                clear hmap2 hke j2 jq hAq hlook
                go_wp2_with fail
                go_roundw
                case rel => exact ⟨j + 1, md, by omega, by go_num, rfl, Nat.le_refl _, HS2.out, by rw [Htk.out, ← List.append_assoc]; exact HM2.out, HG2.out⟩
                case measure => simp [intOf]; omega
              · obtain rfl : j = L.length := by omega
                have hM := HM.out
                rw [List.take_of_length_le (by rw [List.length_map]; exact Nat.le_refl _)] at hM
                have HM9 := box hM
                have hg := Hg.out
                clear hM
                go_wp2_with fail
                go_roundg (gk - 1)
                case measure => omega
                case rel => exact ⟨s, was, T ++ L.map fun m => m.rc.place, P3, by omega, hsl, rfl, hws, HP5, hPl5, HS.out, HM9.out⟩
          · obtain rfl : t = last := by omega
            go_wp2_with fail
            refine (HS.out.stays (by omega) (t : Int) (Int.le_refl _)).mono ?_
            rintro e w5 ⟨rfl, h5, hF5⟩
            have HS5 := box h5
            have HM5 := box (HM.out.same (hF5 _ (seen_free HM.out)))
            have hP0 : P2 = [] := List.eq_nil_iff_forall_not_mem.2 (fun y hy => by
              have h1 := HP.out.1 y hy
              obtain ⟨_, _, _, _, _, _, hX⟩ := HS5.out
              have := hX.waits.late y hy
              omega)
            subst hP0
            have hTl : T.length = l.length := by have := HP.out.2.len; simpa using this
            have HTl := box hTl
            have hmany := box (HS5.out.many (room_at hn hl3))
            clear h5 hF5 HM hTl
            go_wp2_with fail
            refine hmany.out.mono ?_
            rintro e w6 ⟨rfl, hc6⟩
            have HS6 := box (HS5.out.calm hc6)
            have hM6 := HM5.out.calm hc6
            have hlen := seen_len hM6
            rw [HTl.out] at hlen
            clear hc6 hM6
            go_wp2_with fail
            refine HS6.out.hand.mono ?_
            rintro e w7 ⟨rfl, rfl⟩
            go_wp2_with fail
            go_ret
            exact ⟨ret_bool (by simp), HS6.out.owns⟩

theorem own : ownKnob Try.prog.godebug = none := by kernel_rfl
theorem laidOut : laidOutB Try.prog = true := by kernel_rfl
set_option maxRecDepth 100000 in
set_option linter.unusedVariables false in
theorem lifted (os : Os) (started : os.Started) (H : Type) (enc : TypeId × Value → H) :
    ReturnsInHanded {} Try.checked os 5 .any (Rows.tlogOrderSpec.pre6 enc Try.prog Try.f5 Rows.tlogOrderRow.domain false) (Rows.tlogOrderSpec.post enc Try.prog Try.f5 false true false false) := by
  refine returnsInHanded_of_change_sized (C := Try.checked) own started (by kernel_rfl) Try.func5
    (ChangeSpec.witness6 (enc := enc) (C := Try.checked) false ⟨#[], #[.slice none 0 0], []⟩ 8 (by kernel_rfl) (by kernel_rfl) (by kernel_rfl) (by kernel_rfl)) ?_
  intro W base args ds gs before hval0 hW hcnd hsz0 _
  have hsz : (DataW.weightsEach Try.prog (Try.f5.params.toList ++ []) (ds ++ gs)).all (· ≤ reachBytes) = true := hsz0
  clear hsz0
  have hval : ∀ (j : Nat) t v, Try.f5.params[j]? = some t → args[j]? = some v → Value.okWide Try.prog W .any base t v := hval0
  have hW' := hW
  obtain ⟨p, q, hA0, hV, rfl, hfz, hnd⟩ := hW
  have hA : DataW.TrodAll enc Try.prog W 0 (fun _ => true) true Try.f5.params.toList args.toList ds p := hA0
  rw [Try.params5] at hA hval hsz
  obtain ⟨v0, vs0, d0, ds0, p0, q0, hargs, rfl, rfl, h0, r0'⟩ := trodAll_cons hA
  obtain ⟨rfl, rfl, rfl⟩ := trodAll_nil r0'
  obtain rfl : args = #[v0] := by cases args; simp_all
  obtain ⟨rfl, rfl⟩ := trodVars_none hV
  clear hA0 hval0
  have wt0 := fun n hn => (by simpa using List.all_eq_true.1 hsz n (DataW.weights_mem_each (j := 0) rfl rfl n hn) : n ≤ reachBytes)
  have hlt : ∀ x ∈ p0 ++ [], x.block < W.heap.size := fun x hx => by have := hW'.lt x (by simpa using hx); simpa using this
  obtain ⟨l0, r0⟩ := slice_arg Try.underlying45 (hval 0 45 v0 rfl rfl) ((opens_slice (c := 1) Try.underlying45 (by kernel_rfl) (by decide) (opens_int Try.underlying22)).arg h0)
  refine (walk W v0 l0 r0).mono fun e W' ⟨he, hg⟩ => ?_
  subst he
  refine ⟨_, rfl, _, _, _, [] ++ [], p0 ++ [], [], hW', ?_, ?_, ?_, hg.frame _, fun h => by cases h⟩
  · exact trodAll_mk1 (shut_bool Try.underlying4 true)
  · exact trodAll_cons_mk (Below.trod laidOut (by kernel_rfl) (of_decide_eq_true (by kernel_rfl)) h0 hg (fun x hx => hlt x (by simp [hx]))) (trodAll_mk0)
  · exact rfl

theorem over : Rows.tlogOrderRow.holds Try.pinned (OpenSpec.ofChange Rows.tlogOrderSpec) :=
  OpenClaim.holds_of_wide 5 Try.f5 rfl rfl rfl rfl rfl rfl rfl ⟨rfl, rfl, rfl, rfl, rfl⟩ rfl rfl rfl rfl rfl (by kernel_rfl) Try.func5 (by kernel_rfl)
    (of_decide_eq_true (by kernel_rfl)) (by unfold Func.isWrapper; first | (rw [if_pos (by decide +kernel)]; kernel_rfl) | (rw [if_neg (by decide +kernel)]; exact ⟨rfl, rfl⟩))
    (fun os started H enc _ => lifted os started H enc)

theorem proved : Rows.TlogOrderSaid := over
#print axioms proved
end Go.Proofs.Ytccbfekajbnehaa.torder
