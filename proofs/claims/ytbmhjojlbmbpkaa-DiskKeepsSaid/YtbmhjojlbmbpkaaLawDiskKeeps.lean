/- DiskKeeps: a crash that keeps all writes, whole, loses nothing; one that keeps none leaves no more than there was; a second one changes nothing. No condition. -/
import Derived.Test.YtbmhjojlbmbpkaaRows
import Derived.WalkKit
import Derived.ProofKit
import Derived.OpenShut
import Derived.Handy
import Derived.Deep.LoopGhost
import Derived.Lib.Hide
import Derived.Lib.Strings
import Derived.SizedLaws
import Derived.Maps.Own
import Derived.Maps.OwnOps
import Derived.Maps.OwnSet
import Derived.Maps.RangeWalk
import Derived.Deep.QuietTactic
import Derived.BigQuiet
import Derived.Deep.RegionHeld3
import Derived.Lib.ConvBytes
import Derived.Lib.AppendZeros
import Derived.Lib.AppendZerosOnto
import Derived.Lib.LazyBuf
import Derived.Shelf.Abstract
import Derived.LaidEql
import Derived.Lib.SliceRun
import Derived.StillTailTactics
import Derived.Outline
import Derived.Deep.Slices
import Derived.Shelf.SlIter.Nil
import Derived.Ground.GgzProg
import Derived.Shelf.SortM.Plain
import Derived.Shelf.SortM.SortNone
import Derived.Ground.SlgmProg
import Derived.Shelf.SlicesE.DeleteFunc
import Derived.Ground.SlgfProg
import Derived.Test.YtbmhjojlbmbpkaaProg
import Derived.Shelf.Strings.Builder1
import Derived.Shelf.Small.Bits
import Derived.Shelf.Strings.BuilderF
import Derived.Shelf.Strings.BuilderK
import Derived.Shelf.Strconv.Itoa0
import Derived.Shelf.Sort.Plain
import Derived.Shelf.Strings.Prefix
import Derived.Shelf.Strings.BuilderCap
import Derived.Shelf.Slices.In.SortNone
import Derived.Shelf.SlicesE.IndexFunc
import Derived.Laws.MakeOwn
import Derived.Test.YtbmhjojlbmbpkaaPk14
namespace Go.Proofs.Ytbmhjojlbmbpkaa.dkeeps
open Go.ChangeShapes Go.WideShapes Go.ChangeAt Go.RowKit
open Go.Proofs.Ytbmhjojlbmbpkaa.dk

theorem infoBool : (Try.prog.info? 4).map (fun i => (i.zero, i.size, i.bytes)) = some (some (.bool false), 1, 1) := by kernel_rfl
/-- The kept flags, the first k of them set. -/
def flags (k : Nat) : Array Value := (List.replicate k (Value.bool true) ++ List.replicate (200 - k) (Value.bool false)).toArray
theorem flags_size {k : Nat} (h : k ≤ 200) : (flags k).size = 200 := by unfold flags; simp; omega
theorem flags_set {k : Nat} (h : k < 200) : (flags k).setIfInBounds k (.bool true) = flags (k + 1) := by
  unfold flags
  apply Array.ext'
  simp only [List.setIfInBounds_toArray]
  rw [List.set_append_right _ _ (by simp), show 200 - k = (200 - (k + 1)) + 1 by omega, List.replicate_succ]
  simp [List.replicate_succ']
theorem flags_at {k i : Nat} (h : k ≤ 200) (hi : i < 200) : ∃ b, (flags k)[i]? = some (.bool b) := by
  unfold flags
  by_cases hk : i < k
  · exact ⟨true, by simp [List.getElem?_append_left, hk]⟩
  · refine ⟨false, ?_⟩
    rw [List.getElem?_toArray, List.getElem?_append_right (by rw [List.length_replicate]; omega), List.length_replicate, List.getElem?_replicate, if_pos (by omega)]
theorem flags_all (w : World) (b : Nat) (h : w.heap[b]? = some (.cells (flags 200) 4 (0, 0))) : BoolsAt w (some ⟨b, 0, none⟩) (List.replicate 200 true) := fun k hk => by
  refine ⟨b, 0, rfl, ?_⟩
  rw [Nat.zero_add, cell_of h]
  have hk' : k < 200 := by rw [List.length_replicate] at hk; exact hk
  show (flags 200)[k]? = some (.bool (List.replicate 200 true)[k])
  rw [List.getElem_replicate]
  unfold flags
  rw [List.getElem?_toArray, List.getElem?_append_left (by rw [List.length_replicate]; exact hk'), List.getElem?_replicate, if_pos hk']
theorem made_flags (w : World) : (Instr.makeSlice 32 (.int .i64 200) (.int .i64 200)).run Try.prog w = .ok (.slice (some ⟨w.heap.size, 0, none⟩) 200 200) (w.alloc (.cells (flags 0) 4)) := by
  obtain ⟨i0, hi, hz0, hz1, hz2⟩ := info_parts infoBool
  have hmk := run_make (P := Try.prog) w 32 4 i0 _ Try.underlying32 hi hz0 .i64 .i64 200 200 (by omega) (Int.le_refl _) (by rw [hz2]; omega) (by omega)
  simp only [hz1, Nat.mul_one] at hmk
  rw [show madeCells (Value.bool false).cells (Int.toNat 200) = flags 0 by kernel_rfl] at hmk
  exact hmk
theorem names_small {D E : DiskS} {n m : Nat} (hS : Small D n m) (h : E.files.map (·.name) = D.files.map (·.name)) : Small E n m := by
  have hl := congrArg List.length h
  simp only [List.length_map] at hl
  refine hS.of (by omega) (fun f hf => ?_)
  have : f.name ∈ E.files.map (·.name) := List.mem_map.2 ⟨f, hf, rfl⟩
  rw [h] at this
  obtain ⟨g, hg, e⟩ := List.mem_map.1 this
  exact ⟨g, hg, e⟩
theorem ren_names {D : DiskS} {g : Nat → Nat} : (D.ren g).files.map (·.name) = D.files.map (·.name) := by
  unfold DiskS.ren
  simp only [List.map_map]; rfl
theorem names_len {D : DiskS} (h : D.files.length ≤ 1000000) : (D.names ⟨#[]⟩).length ≤ 4294967296 := by
  unfold DiskS.names DiskS.namesL
  rw [List.length_map]
  refine Nat.le_trans (List.length_filter_le _ _) ?_
  rw [List.length_mergeSort, List.length_map]
  omega
theorem apart_new {b n c B : Nat} {F : Nat → Prop} (hb : B ≤ b) (hF : ∀ x, F x → x < B) : Apart (.slice (some ⟨b, 0, none⟩) n c) F := fun a m k e _ hf => by
  cases e
  have := hF _ hf
  simp only at this
  omega

set_option maxRecDepth 100000 in
set_option maxHeartbeats 8000000 in
theorem walk (W : World) (v : Value) (l : List OpS) (r : RowsAt OpR 8 W v l) :
    Calls Try.prog 6 #[v] W fun e W' => e = .returned (.bool true) ∧ Calm W W' := by
  have hml : l.length ≤ maxLen := by obtain ⟨a, cap, _, h2, h3, _⟩ := r; omega
  obtain ⟨a, cap, hv, hops⟩ := RowsAt_op r
  subst hv
  have Hops := box hops
  have Hr := box r
  have hgr := box (Great_any (.slice a l.length cap) l)
  clear r hops
  go_enter Try.func6, Try.ntmps6
  go_wp2_with fail
  refine (awake_any _).mono ?_
  rintro e w1 ⟨rfl, hc1⟩
  have Hc1 := box hc1
  clear hc1
  go_wp2_with fail
  refine (hgr.out w1 (Hr.out.calm OpR.lasts Hc1.out) hml).mono ?_
  rintro e w2 ⟨rfl, hc2⟩
  have O2 := box ((Owns.refl W).calm' (Hc1.out.trans hc2))
  clear hc2
  obtain ⟨g, hg⟩ : ∃ g, great l = g := ⟨_, rfl⟩
  rw [hg]
  have Hg := box hg
  clear hg
  cases g
  · have hl1 : l.length ≤ 100 := by have := Hg.out; unfold great at this; rw [Bool.or_eq_false_iff] at this; simpa using this.1
    go_wp2_with fail
    refine (New_ok _ 100000).mono ?_
    rintro e w3 ⟨p, F, rfl, h3, hc3, hF3⟩
    have H3 := box h3
    have O3 := box (O2.out.new hc3 hF3)
    clear h3 hc3 hF3
    go_wp2_with fail
    refine (New_ok _ 100000).mono ?_
    rintro e w4 ⟨q, G, rfl, h4, hc4, hG4⟩
    have H4 := box h4
    have H3' := box (H3.out.calm hc4)
    have P4 := box (O3.out.new hc4 hG4)
    have O4 := box (O3.out.calm' hc4)
    have A4 := box (show ∀ b, F b → ¬ G b from fun b hf hg => by have := H3.out.foot_lt b hf; have := hG4 b hg; omega)
    clear h4 hc4 hG4
    go_wp2_with fail
    go_loopw [19] (fun i wr => ∃ k : Nat, k ≤ l.length ∧ i = .int .i64 k ∧ ∃ D F G g, DiskOk wr p D F k ∧ DiskOk wr q (D.ren g) G k ∧ Whole D ∧ Whole (D.ren g) ∧ Small D k 20 ∧ Owns W wr F ∧ Owns W wr G ∧ ∀ b, F b → ¬ G b) (fun i _ => l.length - (intOf i).toNat)
    case atStart => exact ⟨0, Nat.zero_le _, rfl, new 100000, F, G, id, H3'.out, H4.out, (show Whole (new 100000) from fun f hf => by cases hf), (show Whole ((new 100000).ren id) from fun f hf => by cases hf), ⟨Nat.le_refl _, fun f hf => by cases hf⟩, O4.out, P4.out, A4.out⟩
    case round =>
      clear H3 H3' H4 O3 O4 P4 A4
      obtain ⟨k, hk, rfl, D, F, G, g, hD, hE, hWh, hWr, hS, hO, hP, hA⟩ := hrel
      have HD := box hD
      have HE := box hE
      have HWh := box hWh
      have HWr := box hWr
      have HS := box hS
      have HO := box hO
      have HP := box hP
      have HA := box hA
      clear hD hE hWh hWr hS hO hP hA
      obtain ⟨wo, hwo⟩ : ∃ wo : World, wo = wr := ⟨_, rfl⟩
      subst hwo
      by_cases hlt : k < l.length
      · obtain ⟨b, off, lv, kv, rfl, hb, ho, c0, c1, c2, c3, c4, c5, c6, c7⟩ := Hops.out k hlt
        have d0 := (HO.out.calm.cell (p := ⟨b, off + k * 8, none⟩) hb).trans c0
        have d1 := (HO.out.calm.cell (p := ⟨b, off + k * 8 + 1, none⟩) hb).trans c1
        have d2 := (HO.out.calm.cell (p := ⟨b, off + k * 8 + 2, none⟩) hb).trans c2
        have d3 := (HO.out.calm.cell (p := ⟨b, off + k * 8 + 3, none⟩) hb).trans c3
        have d4 := (HO.out.calm.cell (p := ⟨b, off + k * 8 + 4, none⟩) hb).trans c4
        have d5 := (HO.out.calm.cell (p := ⟨b, off + k * 8 + 5, none⟩) hb).trans c5
        have d6 := (HO.out.calm.cell (p := ⟨b, off + k * 8 + 6, none⟩) hb).trans c6
        have d7 := (HO.out.calm.cell (p := ⟨b, off + k * 8 + 7, none⟩) hb).trans c7
        have hgo := box (great_one Hg.out k hlt)
        obtain ⟨o, ho'⟩ : ∃ o, l[k] = o := ⟨_, rfl⟩
        rw [ho'] at d0 d1 d2 d3 d4 d7 ho hgo
        obtain ⟨ok, on, oa, ob, os, ol, okeep, olack⟩ := o
        have Ho := box ho
        have hol : ol.length ≤ 10 := hgo.out.2.1
        obtain ⟨la, lcap, rfl, hlc⟩ := ho.l.strs.1.uni
        obtain ⟨ka, kcap, rfl, _, _⟩ := ho.keep
        have Hlc := box hlc
        have hbr := Nat.lt_of_lt_of_le hb HO.out.calm.size
        clear c0 c1 c2 c3 c4 c5 c6 c7 ho hlc ho'
        simp only at d0 d1 d2 d3 d4 d7
        have Ha := box ((Calm.refl wo).alloc (.cells #[.int .i64 ok, .int .i64 on, .string oa, .string ob, .string os, .slice la ol.length lcap, .slice ka okeep.length kcap, .int .i64 olack] 36))
        have Hn := box (heap_new wo (.cells #[.int .i64 ok, .int .i64 on, .string oa, .string ob, .string os, .slice la ol.length lcap, .slice ka okeep.length kcap, .int .i64 olack] 36))
        by_cases h5 : 5 < ok
        · go_wp2_with fail
          go_roundw
          case rel => exact ⟨k + 1, by omega, by go_num, D, F, G, g, (HD.out.calm Ha.out).mono (by omega), (HE.out.calm Ha.out).mono (by omega), HWh.out, HWr.out, HS.out.mono (by omega) (Nat.le_refl _), HO.out.calm' Ha.out, HP.out.calm' Ha.out, HA.out⟩
          case measure => simp [intOf]; omega
        · go_wp2_with fail
          refine (Do_ok ⟨ok, on, oa, ob, os, ol, okeep, olack⟩ (.slice la ol.length lcap) (.slice ka okeep.length kcap) _ (HD.out.calm Ha.out) (by omega) (Ho.out.calm (HO.out.calm.trans Ha.out)) (HO.out.apart Ho.out.l) (HO.out.apart Ho.out.keep) (by have := hgo.out.1; simp only; omega) (by simp only; omega) (by have := hgo.out.2.2.1; simp only; omega)).mono ?_
          rintro e w7 ⟨b7, hb7, rfl, F7, h7, hs7⟩
          have O7 := box ((HO.out.calm' Ha.out).step hs7)
          have E7 := box ((HE.out.calm Ha.out).keep hs7.keeps (fun b hg hf => HA.out b hf hg))
          have P7 := box (show Owns W w7 G from ⟨O7.out.calm, HP.out.foot⟩)
          have A7 := box (show ∀ b, F7 b → ¬ G b from fun b hf hg => by
            rcases hs7.foot b hf with hf | hf
            · exact HA.out b hf hg
            · have := HE.out.foot_lt b hg
              simp at hf
              omega)
          have j0 := hs7.same Hn.out (fun hf => by have := HD.out.foot_lt _ hf; omega)
          have e0 := cell_of j0 0
          have e1 := cell_of j0 1
          have e2 := cell_of j0 2
          have e3 := cell_of j0 3
          have e4 := cell_of j0 4
          have e5 := cell_of j0 5
          have e6 := cell_of j0 6
          have e7 := cell_of j0 7
          have jlt := heap_lt j0
          have H7 := box h7
          have hbf := box (show ∀ f ∈ D.files, f.blk ≠ b7 from fun f hf e => by
            have : F f.blk := by obtain ⟨mb, wv, h1, rfl⟩ := HD.out.lies; exact .inr (.inr (.inr (List.mem_map.2 ⟨f, hf, rfl⟩)))
            have := HD.out.foot_lt _ this
            simp at hb7
            omega)
          clear h7 hs7 j0 hb7 d0 d1 d2 d3 d4 d5 d6 d7
          go_wp2_with fail
          refine (Do_ok ⟨ok, on, oa, ob, os, ol, okeep, olack⟩ (.slice la ol.length lcap) (.slice ka okeep.length kcap) _ E7.out (by omega) (Ho.out.calm O7.out.calm) (P7.out.apart Ho.out.l) (P7.out.apart Ho.out.keep) (by have := hgo.out.1; simp only; omega) (by simp only; omega) (by have := hgo.out.2.2.1; simp only; omega)).mono ?_
          rintro e w8 ⟨b8, hb8, rfl, G8, h8, hs8⟩
          have hbf8 := box (show ∀ f ∈ (D.ren g).files, f.blk ≠ b8 from fun f hf e => by
            have : G f.blk := by obtain ⟨mb, wv, h1, rfl⟩ := E7.out.lies; exact .inr (.inr (.inr (List.mem_map.2 ⟨f, hf, rfl⟩)))
            have := E7.out.foot_lt _ this
            omega)
          have hren := ren_does HD.out.form HE.out.form ⟨ok, on, oa, ob, os, ol, okeep, olack⟩ b7 b8 (by simp only; omega) hbf.out
          have W8 := box (HWr.out.does HE.out.form ⟨ok, on, oa, ob, os, ol, okeep, olack⟩ b8 (by simp only; omega) hbf8.out)
          rw [hren] at h8 W8
          have H8 := box h8
          have P8 := box (P7.out.step hs8)
          have H78 := box (H7.out.keep hs8.keeps (fun b hf hg => A7.out b hf hg))
          have O8 := box (show Owns W w8 F7 from ⟨P8.out.calm, O7.out.foot⟩)
          have A8 := box (show ∀ b, F7 b → ¬ G8 b from fun b hf hg => by
            rcases hs8.foot b hg with hg | hg
            · exact A7.out b hf hg
            · have := H7.out.foot_lt b hf
              omega)
          have S8 := box (HS.out.does ⟨ok, on, oa, ob, os, ol, okeep, olack⟩ b7 (by have := hgo.out.2.2.2.1; simp only; omega) (by have := hgo.out.2.2.2.2; simp only; omega))
          have W7 := box (HWh.out.does HD.out.form ⟨ok, on, oa, ob, os, ol, okeep, olack⟩ b7 (by simp only; omega) hbf.out)
          clear h8 hs8 hb8 hren e0 e1 e2 e3 e4 e5 e6 e7
          go_wp2_with fail
          go_roundw
          case rel => exact ⟨k + 1, by omega, by go_num, _, F7, G8, more g b7 b8, H78.out, H8.out, W7.out, W8.out, S8.out, O8.out, P8.out, A8.out⟩
          case measure => simp [intOf]; omega
      · obtain rfl : k = l.length := by omega
        go_wp2_with fail
        refine (Same_yes _ HD.out.lies HE.out.lies (same_ren HD.out.form)).mono ?_
        rintro e w5 ⟨rfl, hc5⟩
        have Hc5 := box hc5
        clear hc5
        have hww : (D.ren g).waits.length = D.waits.length := by unfold DiskS.ren; simp
        go_wp2_with fail
        refine (Waits_any _ (HD.out.calm Hc5.out).lies).mono ?_
        rintro e w6 ⟨rfl, rfl⟩
        go_wp2_with fail
        refine (Waits_any _ (HE.out.calm Hc5.out).lies).mono ?_
        rw [hww]
        rintro e w6 ⟨rfl, rfl⟩
        have hmk := made_flags w5
        have Hn := box (heap_new w5 (.cells (flags 0) 4))
        have HC0 := box ((Calm.refl w5).alloc (.cells (flags 0) 4))
        go_wp2_with fail
        go_loopw [47] (fun i wr => ∃ k : Nat, k ≤ 200 ∧ i = .int .i64 k ∧ Calm w5 wr ∧ wr.heap[w5.heap.size]? = some (.cells (flags k) 4 (0, 0))) (fun i _ => 200 - (intOf i).toNat)
        case atStart => exact ⟨0, by omega, rfl, HC0.out, Hn.out⟩
        case round =>
          clear Hn HC0 hmk
          obtain ⟨k, hk, rfl, hcal, hfl⟩ := hrel
          have HC := box hcal
          have HFl := box hfl
          clear hcal hfl
          obtain ⟨wf, hwf⟩ : ∃ wf : World, wf = wr := ⟨_, rfl⟩
          subst hwf
          by_cases hk2 : k < 200
          · obtain ⟨b0, hb0⟩ := flags_at hk hk2
            have hcl := (cell_of HFl.out k).trans hb0
            have hfr := free_of HFl.out k
            have hlt2 := heap_lt HFl.out
            have HS2 := box (heap_set HFl.out k (.bool true))
            have HC2 := box (show Calm w5 (wf.setCell ⟨w5.heap.size, k, none⟩ (.bool true)) from ((Keeps.of_calm (F := fun b => w5.heap.size ≤ b) HC.out).setCell (p := ⟨w5.heap.size, k, none⟩) (.inr (Nat.le_refl _)) _).below (Nat.le_refl _) (fun _ h => h))
            rw [flags_set hk2] at HS2
            clear hb0
            go_wp2_with fail
            go_roundw
            case rel => exact ⟨k + 1, by omega, by go_num, HC2.out, HS2.out⟩
            case measure => simp [intOf]; omega
          · obtain rfl : k = 200 := by omega
            have D9 := box (HD.out.calm (Hc5.out.trans HC.out))
            have E9 := box (HE.out.calm (Hc5.out.trans HC.out))
            have hBge := box (Hc5.out.size)
            have hlt2 := heap_lt HFl.out
            have Hap := box (apart_new (n := 200) (c := 200) hBge.out HD.out.foot_lt)
            have hcr := Crash_ok (some ⟨w5.heap.size, 0, none⟩) 200 (List.replicate 200 true) 0 _ D9.out (by omega) (flags_all _ _ HFl.out) (by rw [List.length_replicate]; exact Hap.out) (by rw [List.length_replicate]; omega) (by rw [List.length_replicate]; omega)
            rw [List.length_replicate] at hcr
            have Hcr := box hcr
            clear hcr
            go_wp2_with fail
            refine Hcr.out.mono ?_
            rintro e w6 ⟨rfl, F6, h6, hs6⟩
            have D6 := box h6
            have E6 := box (E9.out.keep hs6.keeps (fun b hg hf => HA.out b hf hg))
            have hC9 := HO.out.calm.trans (Hc5.out.trans HC.out)
            have O6 := box ((show Owns W wf F from ⟨hC9, HO.out.foot⟩).step hs6)
            have P6 := box (show Owns W w6 G from ⟨O6.out.calm, HP.out.foot⟩)
            have Fl6 := box (hs6.same HFl.out (fun hf => by have := HD.out.foot_lt _ hf; have := hBge.out; omega))
            have A6 := box (show ∀ b, F6 b → ¬ G b from fun b hf hg => by
              rcases hs6.foot b hf with hf | hf
              · exact HA.out b hf hg
              · have := HE.out.foot_lt b hg; have := hBge.out; have := HC.out.size; omega)
            have hw6 := box (show (D.crashed (List.replicate 200 true) 0).waits.length = 0 by rw [(crashed_last _ _).1]; rfl)
            have hNd := box (show ((D.ren g).crashed [] 0).names ⟨#[]⟩ = (D.crashed (List.replicate 200 true) 0).names ⟨#[]⟩ by
              rw [names_of (crashed_names [] 0), names_of (D := D) (ren_names), names_of (crashed_names (D := D) _ 0)])
            have SmA := box (names_small HS.out (crashed_names (List.replicate 200 true) 0))
            have SmB := box (names_small HS.out ((crashed_names (D := D.ren g) [] 0).trans ren_names))
            have hSame := box (same_crash (g := g) HD.out.form HWh.out 200 (by have := HD.out.waits; omega))
            clear h6 hs6 hC9
            go_wp2_with fail
            refine (Same_yes _ D6.out.lies E6.out.lies hSame.out).mono ?_
            rintro e w7 ⟨rfl, hc7⟩
            have D7 := box (D6.out.calm hc7)
            have E7 := box (E6.out.calm hc7)
            have O7 := box (O6.out.calm' hc7)
            have P7 := box (P6.out.calm' hc7)
            have Fl7 := box (heap_calm hc7 Fl6.out)
            clear hc7
            go_wp2_with fail
            refine (Waits_any _ D7.out.lies).mono ?_
            rw [hw6.out]
            rintro e w8 ⟨rfl, rfl⟩
            go_wp2_with fail
            have hs0 := E7.out.good.sizeN
            refine (Size_any _ E7.out.lies (by omega)).mono ?_
            rintro e w8 ⟨rfl, hc8⟩
            have D8 := box (D7.out.calm hc8)
            have E8 := box (E7.out.calm hc8)
            have O8 := box (O7.out.calm' hc8)
            have P8 := box (P7.out.calm' hc8)
            have Fl8 := box (heap_calm hc8 Fl7.out)
            clear hc8
            have hless := crash_size E8.out.good
            have hs1 : ((D.ren g).crashed [] 0).size ≤ 16777216 := by omega
            obtain ⟨s0, hs00⟩ : ∃ s, (D.ren g).size = s := ⟨_, rfl⟩
            rw [hs00] at hless hs0
            rw [hs00]
            obtain ⟨s1, hs11⟩ : ∃ s, ((D.ren g).crashed [] 0).size = s := ⟨_, rfl⟩
            rw [hs11] at hless hs1
            have Hs11 := box hs11
            clear hs00 hs11
            go_wp2_with fail
            refine (Crash_ok none 0 [] 0 _ E8.out (by omega) .nil .nil (Nat.le_refl _) (by decide)).mono ?_
            rintro e w9 ⟨rfl, G9, h9, hs9⟩
            have E9b := box h9
            have D9b := box (D8.out.keep hs9.keeps (fun b hf hg => A6.out b hf hg))
            have P9 := box (P8.out.step hs9)
            have O9 := box (show Owns W w9 F6 from ⟨P9.out.calm, O8.out.foot⟩)
            have Fl9 := box (hs9.same Fl8.out (fun hg => by have := HE.out.foot_lt _ hg; have := hBge.out; omega))
            have hB9 := box (show ∀ x, G9 x → x ≠ w5.heap.size from fun x hx e => by
              rcases hs9.foot x hx with hx | hx
              · have := HE.out.foot_lt _ hx; have := hBge.out; omega
              · have := heap_lt Fl8.out; omega)
            clear h9 hs9
            go_wp2_with fail
            refine (List_any ⟨#[]⟩ _ D9b.out.lies (fun f hf => by have := SmA.out.names f hf; unfold maxLen; omega) (by have := SmA.out.many; omega)).mono ?_
            rintro e w10 ⟨va, rfl, hla, hc10, _⟩
            have D10 := box (D9b.out.calm hc10)
            have E10 := box (E9b.out.calm hc10)
            have P10 := box (P9.out.calm' hc10)
            have Fl10 := box (heap_calm hc10 Fl9.out)
            have Hla := box hla
            clear hla hc10
            go_wp2_with fail
            refine (List_any ⟨#[]⟩ _ E10.out.lies (fun f hf => by have := SmB.out.names f hf; unfold maxLen; omega) (by have := SmB.out.many; omega)).mono ?_
            rintro e w11 ⟨vb, rfl, hlb, hc11, _⟩
            have E11 := box (E10.out.calm hc11)
            have P11 := box (P10.out.calm' hc11)
            have Fl11 := box (heap_calm hc11 Fl10.out)
            have Hla := box (StrsAt.calm Hla.out hc11)
            have Hlb := box hlb
            clear hlb hc11
            go_wp2_with fail
            have hln := box (names_len (D := D.crashed (List.replicate 200 true) 0) (by have := SmA.out.many; omega))
            have Hlb := Hlb.out
            rw [hNd.out] at Hlb
            have Hlb := box Hlb
            obtain ⟨nm, hnm⟩ : ∃ n, (D.crashed (List.replicate 200 true) 0).names ⟨#[]⟩ = n := ⟨_, rfl⟩
            rw [hnm] at Hla Hlb hln
            refine (Texts_any va vb nm nm _ Hla.out Hlb.out hln.out hln.out).mono ?_
            rw [decide_eq_true (rfl : nm = nm)]
            rintro e w12 ⟨rfl, hc12⟩
            have E12 := box (E11.out.calm hc12)
            have P12 := box (P11.out.calm' hc12)
            have Fl12 := box (heap_calm hc12 Fl11.out)
            clear hc12 hnm
            go_wp2_with fail
            refine (Size_any _ E12.out.lies (by rw [Hs11.out]; omega)).mono ?_
            rw [Hs11.out]
            rintro e w13 ⟨rfl, hc13⟩
            have E13 := box (E12.out.calm hc13)
            have P13 := box (P12.out.calm' hc13)
            have Fl13 := box (heap_calm hc13 Fl12.out)
            clear hc13
            go_wp2_with fail
            refine (Size_any _ E13.out.lies (by rw [Hs11.out]; omega)).mono ?_
            rw [Hs11.out]
            rintro e w14 ⟨rfl, hc14⟩
            have E14 := box (E13.out.calm hc14)
            have P14 := box (P13.out.calm' hc14)
            have Fl14 := box (heap_calm hc14 Fl13.out)
            clear hc14
            have hcr2 := Crash_ok (some ⟨w5.heap.size, 0, none⟩) 200 (List.replicate 200 true) 0 _ E14.out (by omega) (flags_all _ _ Fl14.out) (by
              rw [List.length_replicate]
              intro a' n' c' e _ hf
              cases e
              exact hB9.out _ hf rfl) (by rw [List.length_replicate]; omega) (by rw [List.length_replicate]; omega)
            rw [List.length_replicate] at hcr2
            have Hcr2 := box hcr2
            clear hcr2
            go_wp2_with fail
            refine Hcr2.out.mono ?_
            rintro e w15 ⟨rfl, G15, h15, hs15⟩
            have E15 := box h15
            have P15 := box (P14.out.step hs15)
            have hsz2 := box (show (((D.ren g).crashed [] 0).crashed (List.replicate 200 true) 0).size = s1 by
              rw [same_size (crashed_twice _ 0 (crashed_last (D := D.ren g) [] 0).1 (crashed_last (D := D.ren g) [] 0).2)]; exact Hs11.out)
            have hw15 := box (show (((D.ren g).crashed [] 0).crashed (List.replicate 200 true) 0).waits.length = 0 by rw [(crashed_last _ _).1]; rfl)
            clear h15 hs15
            go_wp2_with fail
            refine (Size_any _ E15.out.lies (by rw [hsz2.out]; omega)).mono ?_
            rw [hsz2.out]
            rintro e w16 ⟨rfl, hc16⟩
            have E16 := box (E15.out.calm hc16)
            have P16 := box (P15.out.calm' hc16)
            clear hc16
            go_wp2_with fail
            refine (Waits_any _ E16.out.lies).mono ?_
            rw [hw15.out]
            rintro e w17 ⟨rfl, rfl⟩
            go_wp2_with fail
            go_ret
            exact ⟨ret_bool (by simp), P16.out.calm⟩
  · go_wp2_with fail
    go_ret
    exact ⟨rfl, O2.out.calm⟩

theorem own : ownKnob Try.prog.godebug = none := by kernel_rfl
theorem laidOut : laidOutB Try.prog = true := by kernel_rfl
set_option maxRecDepth 100000 in
set_option linter.unusedVariables false in
theorem lifted (os : Os) (started : os.Started) (H : Type) (enc : TypeId × Value → H) :
    ReturnsInHanded {} Try.checked os 6 .any (Rows.diskKeepsSpec.pre6 enc Try.prog Try.f6 Rows.diskKeepsRow.domain false) (Rows.diskKeepsSpec.post enc Try.prog Try.f6 false true false false) := by
  refine returnsInHanded_of_change_sized (C := Try.checked) own started (by kernel_rfl) Try.func6
    (ChangeSpec.witness6 (enc := enc) (C := Try.checked) false ⟨#[], #[.slice none 0 0], []⟩ 8 (by kernel_rfl) (by kernel_rfl) (by kernel_rfl) (by kernel_rfl)) ?_
  intro W base args ds gs before hval0 hW hcnd hsz0 _
  have hsz : (DataW.weightsEach Try.prog (Try.f6.params.toList ++ []) (ds ++ gs)).all (· ≤ reachBytes) = true := hsz0
  clear hsz0
  have hval : ∀ (j : Nat) t v, Try.f6.params[j]? = some t → args[j]? = some v → Value.okWide Try.prog W .any base t v := hval0
  have hW' := hW
  obtain ⟨p, q, hA0, hV, rfl, hfz, hnd⟩ := hW
  have hA : DataW.TrodAll enc Try.prog W 0 (fun _ => true) true Try.f6.params.toList args.toList ds p := hA0
  rw [Try.params6] at hA hval hsz
  obtain ⟨v0, vs0, d0, ds0, p0, q0, hargs, rfl, rfl, h0, r0'⟩ := trodAll_cons hA
  obtain ⟨rfl, rfl, rfl⟩ := trodAll_nil r0'
  obtain rfl : args = #[v0] := by cases args; simp_all
  obtain ⟨rfl, rfl⟩ := trodVars_none hV
  clear hA0 hval0
  have wt0 := fun n hn => (by simpa using List.all_eq_true.1 hsz n (DataW.weights_mem_each (j := 0) rfl rfl n hn) : n ≤ reachBytes)
  have hlt : ∀ x ∈ p0 ++ [], x.block < W.heap.size := fun x hx => by have := hW'.lt x (by simpa using hx); simpa using this
  obtain ⟨l0, r0⟩ := slice_arg Try.underlying22 (hval 0 22 v0 rfl rfl) ((opens_slice (c := 8) Try.underlying22 (by kernel_rfl) (by decide) (opens_op)).arg h0)
  refine (walk W v0 l0 r0).mono fun e W' ⟨he, hg⟩ => ?_
  subst he
  refine ⟨_, rfl, _, _, _, [] ++ [], p0 ++ [], [], hW', ?_, ?_, ?_, hg.frame _, fun h => by cases h⟩
  · exact trodAll_mk1 (shut_bool Try.underlying4 true)
  · exact trodAll_cons_mk (Below.trod laidOut (by kernel_rfl) (of_decide_eq_true (by kernel_rfl)) h0 hg (fun x hx => hlt x (by simp [hx]))) (trodAll_mk0)
  · exact rfl

theorem over : Rows.diskKeepsRow.holds Try.pinned (OpenSpec.ofChange Rows.diskKeepsSpec) :=
  OpenClaim.holds_of_wide 6 Try.f6 rfl rfl rfl rfl rfl rfl rfl ⟨rfl, rfl, rfl, rfl, rfl⟩ rfl rfl rfl rfl rfl (by kernel_rfl) Try.func6 (by kernel_rfl)
    (of_decide_eq_true (by kernel_rfl)) (by unfold Func.isWrapper; first | (rw [if_pos (by decide +kernel)]; kernel_rfl) | (rw [if_neg (by decide +kernel)]; exact ⟨rfl, rfl⟩))
    (fun os started H enc _ => lifted os started H enc)

theorem proved : Rows.DiskKeepsSaid := over
#print axioms proved
end Go.Proofs.Ytbmhjojlbmbpkaa.dkeeps
