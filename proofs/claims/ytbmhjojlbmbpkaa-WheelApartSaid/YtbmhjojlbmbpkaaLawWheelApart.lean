/- WheelApart: what is set in one slot changes no other one. No condition. -/
import Derived.Test.YtbmhjojlbmbpkaaRows
import Derived.WalkKit
import Derived.ProofKit
import Derived.OpenShut
import Derived.Handy
import Derived.Deep.LoopGhost
import Derived.Lib.Hide
import Derived.Lib.Strings
import Derived.SizedLaws
import Derived.Maps.Own
import Derived.Maps.OwnOps
import Derived.Maps.OwnSet
import Derived.Maps.RangeWalk
import Derived.Deep.QuietTactic
import Derived.BigQuiet
import Derived.Deep.RegionHeld3
import Derived.Lib.ConvBytes
import Derived.Lib.AppendZeros
import Derived.Lib.AppendZerosOnto
import Derived.Lib.LazyBuf
import Derived.Shelf.Abstract
import Derived.LaidEql
import Derived.Lib.SliceRun
import Derived.StillTailTactics
import Derived.Deep.Slices
import Derived.Shelf.SlIter.Nil
import Derived.Ground.GgzProg
import Derived.Shelf.SortM.Plain
import Derived.Shelf.SortM.SortNone
import Derived.Ground.SlgmProg
import Derived.Shelf.SlicesE.DeleteFunc
import Derived.Ground.SlgfProg
import Derived.Test.YtbmhjojlbmbpkaaProg
import Derived.Shelf.Strings.Builder1
import Derived.Shelf.Small.Bits
import Derived.Shelf.Strings.BuilderF
import Derived.Shelf.Strings.BuilderK
import Derived.Shelf.Strconv.Itoa0
import Derived.Shelf.Sort.Plain
import Derived.Shelf.Strings.Prefix
import Derived.Shelf.Strings.BuilderCap
import Derived.Shelf.Slices.In.SortNone
import Derived.Shelf.SlicesE.IndexFunc
import Derived.Laws.MakeOwn
import Derived.Lib.Builder
import Derived.Lib.AppendStr
import Derived.Test.YtbmhjojlbmbpkaaPk15
namespace Go.Proofs.Ytbmhjojlbmbpkaa.wapart
open Go.ChangeShapes Go.WideShapes Go.ChangeAt Go.RowKit
open Go.Proofs.Ytbmhjojlbmbpkaa.dk Go.Proofs.Ytbmhjojlbmbpkaa.wh

set_option maxRecDepth 100000 in
theorem wd1_size (b : Nat) : ((wd1 b).size : Int) ≤ (wd1 b).cap := by show ((96 : Nat) : Int) ≤ 1000; decide
/-- A row of marks, its length told. -/
theorem marks_at {w : World} {v : Value} {H : List Nat} (h : IntsAt w v (marks H)) (hl : H.length = 16) : ∃ a cap, v = .slice a 16 cap ∧ ∀ k (hk : k < 16), ∃ b off, a = some ⟨b, off, none⟩ ∧ b < w.heap.size ∧ w.cell? ⟨b, off + k, none⟩ = some (.int .i64 ((H[k]'(by omega) : Nat) : Int)) := by
  obtain ⟨a, cap, rfl, _, h4⟩ := h
  refine ⟨a, cap, by rw [List.length_map, hl], fun k hk => ?_⟩
  obtain ⟨b, off, e, hb, hc⟩ := h4 k (by rw [List.length_map, hl]; exact hk)
  rw [List.getElem_map] at hc
  exact ⟨b, off, e, hb, hc⟩
set_option maxRecDepth 100000 in
set_option maxHeartbeats 8000000 in
theorem walk (W : World) (v : Value) (l : List (Int × Int)) (r : RowsAt (PairR .u16) 2 W v l) :
    Calls Try.prog 8 #[v] W fun e W' => e = .returned (.bool true) ∧ Calm W W' := by
  obtain ⟨a, cap, rfl, hml, hel⟩ := r.pairs
  have Hel := box hel
  clear hel r
  unfold maxLen at hml
  go_enter Try.func8, Try.ntmps8
  go_wp2_with fail
  refine (awake_any _).mono ?_
  rintro e w1 ⟨rfl, hca⟩
  have O1 := box ((Owns.refl W).calm' hca)
  clear hca
  by_cases h60 : 60 < l.length
  · go_wp2_with fail
    go_ret
    exact ⟨rfl, O1.out.calm⟩
  · go_wp2_with fail
    refine (New_ok _ 1000).mono ?_
    rintro e w2 ⟨p, F, rfl, h2, hc2, hF2⟩
    have H2 := box h2
    have O2 := box (O1.out.new hc2 hF2)
    clear h2 hc2 hF2
    go_wp2_with fail
    refine (New_1000 0 _ H2.out (by decide)).mono ?_
    rintro e w3 ⟨q, b, F3, rfl, h3, hs3, hq, hq3, hF3⟩
    have O3 := box (O2.out.step hs3)
    have H3 := box h3
    have Q3 := box hq
    have Hq := box (Nat.le_trans O2.out.calm.size hq3)
    have HF3 := box hF3
    clear h3 hs3 hq hq3 hF3
    go_wp2_with fail
    go_loopw [27] (fun i wr => ∃ (k : Nat) (D : DiskS) (F : Nat → Prop) (H : List Nat), k ≤ l.length ∧ i = .int .i64 k ∧ DiskOk wr p D F (k + 1) ∧ WhD D H ∧ D.size ≤ D.cap ∧ WheelAt wr q p 0 ∧ ¬ F q ∧ Owns W wr F) (fun i _ => l.length - (intOf i).toNat)
    case atStart => exact ⟨0, _, _, _, Nat.zero_le _, rfl, H3.out, wd1_holds b, wd1_size b, Q3.out, HF3.out, O3.out⟩
    case round =>
      clear Q3 O3 H2 O2 H3 HF3
      obtain ⟨k, D, F, H, hk, rfl, hd, hw, hcap, hq, hFq, hO⟩ := hrel
      have HD := box hd
      have HW := box hw
      have HQ := box hq
      have HFq := box hFq
      have HO := box hO
      have Hcap := box hcap
      clear hd hw hcap hq hFq hO
      obtain ⟨wo, hwo⟩ : ∃ wo : World, wo = wr := ⟨_, rfl⟩
      subst hwo
      by_cases hlt : k < l.length
      · obtain ⟨lb, loff, rfl, hlb, hc0, hc1, hx, hy⟩ := Hel.out k hlt
        have d0 := (HO.out.calm.cell (p := ⟨lb, loff + k * 2, none⟩) hlb).trans hc0
        have d1 := (HO.out.calm.cell (p := ⟨lb, loff + k * 2 + 1, none⟩) hlb).trans hc1
        have hlbo := Nat.lt_of_lt_of_le hlb HO.out.calm.size
        obtain ⟨⟨x, y⟩, hxy⟩ : ∃ z, l[k] = z := ⟨_, rfl⟩
        rw [hxy] at d0 d1 hx hy
        clear hxy hc0 hc1
        simp only at d0 d1 hx hy
        obtain ⟨x, rfl⟩ : ∃ x' : Nat, x = x' := ⟨x.toNat, by have : (0 : Int) ≤ x := hx.1; omega⟩
        obtain ⟨y, rfl⟩ : ∃ y' : Nat, y = y' := ⟨y.toNat, by have : (0 : Int) ≤ y := hy.1; omega⟩
        have hx' : x ≤ 65535 := by have : (x : Int) ≤ 65535 := hx.2; omega
        have hy' : y ≤ 65535 := by have : (y : Int) ≤ 65535 := hy.2; omega
        clear hx hy
        have Ha := box ((Calm.refl wo).alloc (.cells #[.int .u16 (x : Int), .int .u16 (y : Int)] 68))
        have Hn := box (heap_new wo (.cells #[.int .u16 (x : Int), .int .u16 (y : Int)] 68))
        have hheads := box (Heads_any q 0 _ (HD.out.calm Ha.out) (HQ.out.calm Ha.out) HW.out)
        go_wp2_with fail
        refine hheads.out.mono ?_
        rintro e w4 ⟨v4, rfl, hv4, hv4f, hc4⟩
        have j0 := (hc4.block _ (heap_lt Hn.out)).trans Hn.out
        have r0 := cell_of j0 0
        have r1 := cell_of j0 1
        have jlt := heap_lt j0
        have Hj := box j0
        have C4 := box (Ha.out.trans hc4)
        have V4 := box hv4
        have V4f := box hv4f
        have hl16 := HW.out.len
        obtain ⟨a4, cap4, rfl, hcells4⟩ := marks_at hv4 hl16
        have Cells4 := box hcells4
        obtain ⟨E, hE, hWE, hbut, hsz⟩ := HW.out.set HD.out.form (x % 16) y (Nat.mod_lt _ (by decide)) (by omega) Hcap.out
        rw [show ((x % 16 : Nat) : Int) = (x : Int) % 16 by omega] at hE
        have WE := box hWE
        have CapE := box (show (E.size : Int) ≤ E.cap by rw [hsz, hbut.cap]; exact Hcap.out)
        have HE := box hE
        have hset := box (Set_any q 0 ((x : Int) % 16) (y : Int) w4 (HD.out.calm C4.out) (by omega) (HQ.out.calm C4.out) HFq.out (by omega))
        clear hv4f hv4 hc4 j0 hcells4 hE hWE hbut hsz
        go_wp2_with fail
        refine hset.out.mono ?_
        rintro e w5 hok
        obtain ⟨rfl, F5, h5, hs5⟩ := hok.at HE.out
        have H5 := box h5
        have Q5 := box ((HQ.out.calm C4.out).keep hs5.keeps HFq.out)
        have V5 := box (ints_keep V4.out V4f.out hs5.keeps (fun b hb => by have := HD.out.foot_lt b hb; simp only [World.size_alloc]; omega))
        have Fq5 := box (show ¬ F5 q from fun hf => by
          rcases hs5.foot q hf with hf | hf
          · exact HFq.out hf
          · have := heap_lt (HQ.out.calm C4.out); omega)
        have O5 := box ((HO.out.calm' C4.out).step hs5)
        have j5 := hs5.same Hj.out (fun hf => by have := HD.out.foot_lt _ hf; omega)
        have J5 := box j5
        have hheads5 := box (Heads_any q 0 w5 h5 Q5.out WE.out)
        clear h5 hs5 hok r0 r1 jlt j5
        go_wp2_with fail
        refine hheads5.out.mono ?_
        rintro e w6 ⟨v6, rfl, hv6, _, hc6⟩
        have hl16' := WE.out.len
        obtain ⟨a6, cap6, rfl, hcells6⟩ := marks_at hv6 hl16'
        obtain ⟨a5, cap5, he5, hcells5⟩ := marks_at (V5.out.calm hc6) hl16
        cases he5
        have C6 := box hc6
        have Cells6 := box hcells6
        have Cells5 := box hcells5
        have J6 := box (heap_calm hc6 J5.out)
        clear hv6 hc6 hcells6 hcells5
        go_wp2_with fail
        go_loopw [67] (fun i wr => ∃ j : Nat, j ≤ 16 ∧ i = .int .i64 j ∧ Calm w6 wr) (fun i _ => 16 - (intOf i).toNat)
        case atStart => exact ⟨0, by omega, rfl, Calm.refl _⟩
        case round =>
          obtain ⟨j, hj, rfl, hcal⟩ := hrel
          have HC := box hcal
          clear hcal
          obtain ⟨wi, hwi⟩ : ∃ wi : World, wi = wr := ⟨_, rfl⟩
          subst hwi
          by_cases hj16 : j < 16
          · obtain ⟨nb, noff, he6, hnb, hnc⟩ := Cells6.out j hj16
            obtain ⟨ob, ooff, he4, hob, hoc⟩ := Cells5.out j hj16
            subst he6
            subst he4
            have n1 := (HC.out.cell (p := ⟨nb, noff + j, none⟩) hnb).trans hnc
            have o1 := (HC.out.cell (p := ⟨ob, ooff + j, none⟩) hob).trans hoc
            have hnlt := Nat.lt_of_lt_of_le hnb HC.out.size
            have holt := Nat.lt_of_lt_of_le hob HC.out.size
            have jr := heap_calm HC.out J6.out
            have r1 := cell_of jr 1
            have jlt := heap_lt jr
            rw [List.getElem_set] at n1
            clear hnc hoc jr
            have hyw : IntKind.i64.wrap (y : Int) = y := IntWalk.i64_in _ (by omega)
            by_cases hjx : x % 16 = j
            · rw [if_pos hjx] at n1
              have hb : ((j : Int) == (x : Int) % 16) = true := by rw [beq_iff_eq]; omega
              have hb2 : ((j : Int) != (x : Int) % 16) = false := by rw [bne, hb]; rfl
              go_wp2_with (first | go_quiet (fail) | fail)
              go_roundw
              case rel => exact ⟨j + 1, by omega, by go_num, HC.out.drewN _⟩
              case measure => simp [intOf]; omega
            · rw [if_neg hjx] at n1
              have hb : ((j : Int) == (x : Int) % 16) = false := beq_eq_false_iff_ne.2 (by omega)
              have hb2 : ((j : Int) != (x : Int) % 16) = true := by rw [bne, hb]; rfl
              go_wp2_with (first | go_quiet (fail) | fail)
              go_roundw
              case rel => exact ⟨j + 1, by omega, by go_num, HC.out.drewN _⟩
              case measure => simp [intOf]; omega
          · obtain rfl : j = 16 := by omega
            go_wp2_with fail
            go_roundw
            case rel => exact ⟨k + 1, E, F5, _, by omega, by go_num, H5.out.calm (C6.out.trans HC.out), WE.out, CapE.out, (Q5.out.calm C6.out).calm HC.out, Fq5.out, O5.out.calm' (C6.out.trans HC.out)⟩
            case measure => simp [intOf]; omega
      · obtain rfl : k = l.length := by omega
        go_wp2_with fail
        go_ret
        exact ⟨rfl, HO.out.calm⟩

theorem own : ownKnob Try.prog.godebug = none := by kernel_rfl
theorem laidOut : laidOutB Try.prog = true := by kernel_rfl
set_option maxRecDepth 100000 in
set_option linter.unusedVariables false in
theorem lifted (os : Os) (started : os.Started) (H : Type) (enc : TypeId × Value → H) :
    ReturnsInHanded {} Try.checked os 8 .any (Rows.wheelApartSpec.pre6 enc Try.prog Try.f8 Rows.wheelApartRow.domain false) (Rows.wheelApartSpec.post enc Try.prog Try.f8 false true false false) := by
  refine returnsInHanded_of_change_sized (C := Try.checked) own started (by kernel_rfl) Try.func8
    (ChangeSpec.witness6 (enc := enc) (C := Try.checked) false ⟨#[], #[.slice none 0 0], []⟩ 8 (by kernel_rfl) (by kernel_rfl) (by kernel_rfl) (by kernel_rfl)) ?_
  intro W base args ds gs before hval0 hW hcnd hsz0 _
  have hsz : (DataW.weightsEach Try.prog (Try.f8.params.toList ++ []) (ds ++ gs)).all (· ≤ reachBytes) = true := hsz0
  clear hsz0
  have hval : ∀ (j : Nat) t v, Try.f8.params[j]? = some t → args[j]? = some v → Value.okWide Try.prog W .any base t v := hval0
  have hW' := hW
  obtain ⟨p, q, hA0, hV, rfl, hfz, hnd⟩ := hW
  have hA : DataW.TrodAll enc Try.prog W 0 (fun _ => true) true Try.f8.params.toList args.toList ds p := hA0
  rw [Try.params8] at hA hval hsz
  obtain ⟨v0, vs0, d0, ds0, p0, q0, hargs, rfl, rfl, h0, r0'⟩ := trodAll_cons hA
  obtain ⟨rfl, rfl, rfl⟩ := trodAll_nil r0'
  obtain rfl : args = #[v0] := by cases args; simp_all
  obtain ⟨rfl, rfl⟩ := trodVars_none hV
  clear hA0 hval0
  have wt0 := fun n hn => (by simpa using List.all_eq_true.1 hsz n (DataW.weights_mem_each (j := 0) rfl rfl n hn) : n ≤ reachBytes)
  have hlt : ∀ x ∈ p0 ++ [], x.block < W.heap.size := fun x hx => by have := hW'.lt x (by simpa using hx); simpa using this
  obtain ⟨l0, r0⟩ := slice_arg Try.underlying67 (hval 0 67 v0 rfl rfl) ((opens_slice (c := 2) Try.underlying67 (by kernel_rfl) (by decide) (opens_pair Try.underlying68 Try.underlying42 (by kernel_rfl) (by kernel_rfl))).arg h0)
  refine (walk W v0 l0 r0).mono fun e W' ⟨he, hg⟩ => ?_
  subst he
  refine ⟨_, rfl, _, _, _, [] ++ [], p0 ++ [], [], hW', ?_, ?_, ?_, hg.frame _, fun h => by cases h⟩
  · exact trodAll_mk1 (shut_bool Try.underlying4 true)
  · exact trodAll_cons_mk (Below.trod laidOut (by kernel_rfl) (of_decide_eq_true (by kernel_rfl)) h0 hg (fun x hx => hlt x (by simp [hx]))) (trodAll_mk0)
  · exact rfl

theorem over : Rows.wheelApartRow.holds Try.pinned (OpenSpec.ofChange Rows.wheelApartSpec) :=
  OpenClaim.holds_of_wide 8 Try.f8 rfl rfl rfl rfl rfl rfl rfl ⟨rfl, rfl, rfl, rfl, rfl⟩ rfl rfl rfl rfl rfl (by kernel_rfl) Try.func8 (by kernel_rfl)
    (of_decide_eq_true (by kernel_rfl)) (by unfold Func.isWrapper; first | (rw [if_pos (by decide +kernel)]; kernel_rfl) | (rw [if_neg (by decide +kernel)]; exact ⟨rfl, rfl⟩))
    (fun os started H enc _ => lifted os started H enc)

theorem proved : Rows.WheelApartSaid := over
#print axioms proved
end Go.Proofs.Ytbmhjojlbmbpkaa.wapart
