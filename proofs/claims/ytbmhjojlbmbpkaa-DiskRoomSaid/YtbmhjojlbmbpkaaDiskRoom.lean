/- DiskRoom: what all files have, and what goes in, are the capacity together; what is refused changes nothing. No condition. -/
import Derived.Test.YtbmhjojlbmbpkaaDiskT
namespace Go.Proofs.Ytbmhjojlbmbpkaa.droom
open Go.ChangeShapes Go.WideShapes Go.ChangeAt Go.RowKit
open Go.Proofs.Ytbmhjojlbmbpkaa.dk

set_option maxRecDepth 100000 in
set_option maxHeartbeats 8000000 in
theorem walk (W : World) (c : Int) (hwf : (Lit.int .u16 c).wf = true) (v : Value) (l : List OpS) (r : RowsAt OpR 8 W v l) :
    Calls Try.prog 5 #[.int .u16 c, v] W fun e W' => e = .returned (.bool true) ∧ Calm W W' := by
  have hml : l.length ≤ maxLen := by obtain ⟨a, cap, _, h2, h3, _⟩ := r; omega
  obtain ⟨a, cap, hv, hops⟩ := RowsAt_op r
  subst hv
  have hc : 0 ≤ c ∧ c ≤ 65535 := by unfold Lit.wf at hwf; simp [IntKind.min, IntKind.max, IntKind.bits, IntKind.signed] at hwf; omega
  clear hwf
  obtain ⟨hc0, hc1⟩ := hc
  have Hops := box hops
  have Hr := box r
  have hgr := box (Great_any (.slice a l.length cap) l)
  clear r hops
  go_enter Try.func5, Try.ntmps5
  go_wp2_with fail
  refine (awake_any _).mono ?_
  rintro e w1 ⟨rfl, hc1⟩
  have Hc1 := box hc1
  clear hc1
  go_wp2_with fail
  refine (hgr.out w1 (Hr.out.calm OpR.lasts Hc1.out) hml).mono ?_
  rintro e w2 ⟨rfl, hc2⟩
  have O2 := box ((Owns.refl W).calm' (Hc1.out.trans hc2))
  clear hc2
  obtain ⟨g, hg⟩ : ∃ g, great l = g := ⟨_, rfl⟩
  rw [hg]
  have Hg := box hg
  clear hg
  cases g
  · have hl1 : l.length ≤ 100 := by have := Hg.out; unfold great at this; rw [Bool.or_eq_false_iff] at this; simpa using this.1
    go_wp2_with fail
    refine (New_ok _ c).mono ?_
    rintro e w3 ⟨p, F, rfl, h3, hc3, hF3⟩
    have H3 := box h3
    have O3 := box (O2.out.new hc3 hF3)
    have C3 := box (show (new c).cap = c by show min (max c 0) 16777216 = c; omega)
    clear h3 hc3 hF3
    go_wp2_with fail
    go_loopw [21] (fun i wr => ∃ k : Nat, k ≤ l.length ∧ i = .int .i64 k ∧ ∃ D F, DiskOk wr p D F k ∧ D.cap = c ∧ Small D k 20 ∧ Owns W wr F) (fun i _ => l.length - (intOf i).toNat)
    case atStart => exact ⟨0, Nat.zero_le _, rfl, _, _, H3.out, C3.out, ⟨Nat.le_refl _, fun f hf => by cases hf⟩, O3.out⟩
    case round =>
      clear H3 O3 C3
      obtain ⟨k, hk, rfl, D, F, hD, hcap, hS, hO⟩ := hrel
      have HD := box hD
      have HC := box hcap
      have HS := box hS
      have HO := box hO
      clear hD hS hO hcap
      obtain ⟨wo, hwo⟩ : ∃ wo : World, wo = wr := ⟨_, rfl⟩
      subst hwo
      by_cases hlt : k < l.length
      · obtain ⟨b, off, lv, kv, rfl, hb, ho, c0, c1, c2, c3, c4, c5, c6, c7⟩ := Hops.out k hlt
        have d0 := (HO.out.calm.cell (p := ⟨b, off + k * 8, none⟩) hb).trans c0
        have d1 := (HO.out.calm.cell (p := ⟨b, off + k * 8 + 1, none⟩) hb).trans c1
        have d2 := (HO.out.calm.cell (p := ⟨b, off + k * 8 + 2, none⟩) hb).trans c2
        have d3 := (HO.out.calm.cell (p := ⟨b, off + k * 8 + 3, none⟩) hb).trans c3
        have d4 := (HO.out.calm.cell (p := ⟨b, off + k * 8 + 4, none⟩) hb).trans c4
        have d5 := (HO.out.calm.cell (p := ⟨b, off + k * 8 + 5, none⟩) hb).trans c5
        have d6 := (HO.out.calm.cell (p := ⟨b, off + k * 8 + 6, none⟩) hb).trans c6
        have d7 := (HO.out.calm.cell (p := ⟨b, off + k * 8 + 7, none⟩) hb).trans c7
        have hgo := box (great_one Hg.out k hlt)
        obtain ⟨o, ho'⟩ : ∃ o, l[k] = o := ⟨_, rfl⟩
        rw [ho'] at d0 d1 d2 d3 d4 d7 ho hgo
        obtain ⟨ok, on, oa, ob, os, ol, okeep, olack⟩ := o
        have Ho := box ho
        have hol : ol.length ≤ 10 := hgo.out.2.1
        obtain ⟨la, lcap, rfl, hlc⟩ := ho.l.strs.1.uni
        obtain ⟨ka, kcap, rfl, _, _⟩ := ho.keep
        have Hlc := box hlc
        have hbr := Nat.lt_of_lt_of_le hb HO.out.calm.size
        clear c0 c1 c2 c3 c4 c5 c6 c7 ho hlc ho'
        simp only at d0 d1 d2 d3 d4 d7
        by_cases h5 : 5 < ok
        · go_wp2_with fail
          go_roundw
          case rel => exact ⟨k + 1, by omega, by go_num, D, F, (HD.out.calm ((Calm.refl wo).alloc _)).mono (by omega), HC.out, HS.out.mono (by omega) (Nat.le_refl _), HO.out.calm' ((Calm.refl wo).alloc _)⟩
          case measure => simp [intOf]; omega
        · go_wp2_with fail
          refine (Size_any _ (HD.out.calm ((Calm.refl wo).alloc _)).lies (by have := HD.out.good.sizeN; omega)).mono ?_
          rintro e w4 ⟨rfl, hc4⟩
          have Hc4 := box (((Calm.refl wo).alloc (.cells #[.int .i64 ok, .int .i64 on, .string oa, .string ob, .string os, .slice la ol.length lcap, .slice ka okeep.length kcap, .int .i64 olack] 36)).trans hc4)
          have hop := heap_calm hc4 (heap_new wo (.cells #[.int .i64 ok, .int .i64 on, .string oa, .string ob, .string os, .slice la ol.length lcap, .slice ka okeep.length kcap, .int .i64 olack] 36))
          have Hop := box hop
          clear hc4 hop d0 d1 d2 d3 d4 d5 d6 d7
          go_wp2_with fail
          refine (Waits_any _ (HD.out.calm Hc4.out).lies).mono ?_
          rintro e w5 ⟨rfl, rfl⟩
          go_wp2_with fail
          refine (List_any ⟨#[]⟩ _ (HD.out.calm Hc4.out).lies (fun f hf => by have := HS.out.names f hf; unfold maxLen; omega) (by have := HS.out.many; omega)).mono ?_
          rintro e w5 ⟨lv5, rfl, hls, hc5, _⟩
          obtain ⟨la5, lcap5, rfl, _⟩ := hls.uni
          rw [names_all]
          have Hop5 := heap_calm hc5 Hop.out
          have Hc5 := box (Hc4.out.trans hc5)
          have e0 := cell_of Hop5 0
          have e1 := cell_of Hop5 1
          have e2 := cell_of Hop5 2
          have e3 := cell_of Hop5 3
          have e4 := cell_of Hop5 4
          have e5 := cell_of Hop5 5
          have e6 := cell_of Hop5 6
          have e7 := cell_of Hop5 7
          clear hc5 Hop5 hls
          go_wp2_with fail
          refine (Do_ok ⟨ok, on, oa, ob, os, ol, okeep, olack⟩ (.slice la ol.length lcap) (.slice ka okeep.length kcap) _ (HD.out.calm Hc5.out) (by omega) (Ho.out.calm (HO.out.calm.trans Hc5.out)) (HO.out.apart Ho.out.l) (HO.out.apart Ho.out.keep) (by have := hgo.out.1; simp only; omega) (by simp only; omega) (by have := hgo.out.2.2.1; simp only; omega)).mono ?_
          rintro e w7 ⟨b7, hb7, rfl, F7, h7, hs7⟩
          have O7 := box ((HO.out.calm' Hc5.out).step hs7)
          have S7 := HS.out.does ⟨ok, on, oa, ob, os, ol, okeep, olack⟩ b7 (by have := hgo.out.2.2.2.1; simp only; omega) (by have := hgo.out.2.2.2.2; simp only; omega)
          have C7 := does_cap (D := D) ⟨ok, on, oa, ob, os, ol, okeep, olack⟩ b7
          have R7 := does_refused (D := D) ⟨ok, on, oa, ob, os, ol, okeep, olack⟩ b7
          obtain ⟨D7, hD7⟩ : ∃ E, (D.does ⟨ok, on, oa, ob, os, ol, okeep, olack⟩ b7).2 = E := ⟨_, rfl⟩
          obtain ⟨r7, hr7⟩ : ∃ E, (D.does ⟨ok, on, oa, ob, os, ol, okeep, olack⟩ b7).1 = E := ⟨_, rfl⟩
          rw [hD7] at h7 S7 C7 R7
          rw [hr7] at R7
          rw [hr7]
          rw [HC.out] at C7
          have H7 := box h7
          have HS7 := box S7
          have HC7 := box C7
          have HR7 := box R7
          have hle7 : (D7.size : Int) ≤ c := by have := h7.good.size; rw [C7] at this; exact this
          have hsize7 := box (fun W' (hW : Calm w7 W') => Size_any W' (h7.calm hW).lies (by have := h7.good.sizeN; omega))
          have hroom7 := box (fun W' (hW : Calm w7 W') => (show Calls Try.prog 28 #[ptrTo p] W' fun e w' => e = .returned (.int .i64 (c - D7.size)) ∧ Calm W' w' by
            have := Room_any W' (h7.calm hW).lies (by have := h7.good.sizeN; omega) h7.good.cap
            rw [C7] at this; exact this))
          have hwaits7 := box (fun W' (hW : Calm w7 W') => Waits_any W' (h7.calm hW).lies)
          have hlist7 := box (fun W' (hW : Calm w7 W') => List_any ⟨#[]⟩ W' (h7.calm hW).lies (fun f hf => by have := S7.names f hf; unfold maxLen; omega) (by have := S7.many; omega))
          have hr63 : (D7.size : Int) + (c - D7.size) = c := by omega
          have q63 : IntKind.i64.wrap ((D7.size : Int) + (c - D7.size)) = c := by rw [IntWalk.i64_in _ (by omega)]; omega
          clear h7 hs7 S7 C7 R7 hD7 hr7 hb7 e0 e1 e2 e3 e4 e5 e6 e7
          by_cases hr0 : r7 = 0
          · subst hr0
            go_wp2_with fail
            refine (hsize7.out _ (.refl _)).mono ?_
            rintro e w8 ⟨rfl, hc8⟩
            have Hc8 := box hc8
            clear hc8
            go_wp2_with fail
            refine (hroom7.out _ Hc8.out).mono ?_
            rintro e w9 ⟨rfl, hc9⟩
            have Hc9 := box (Hc8.out.trans hc9)
            clear hc9
            go_wp2_with fail
            refine (hroom7.out _ Hc9.out).mono ?_
            rintro e w10 ⟨rfl, hc10⟩
            have Hc10 := box (Hc9.out.trans hc10)
            clear hc10
            go_wp2_with fail
            go_roundw
            case rel => exact ⟨k + 1, by omega, by go_num, D7, F7, H7.out.calm Hc10.out, HC7.out, HS7.out, O7.out.calm' Hc10.out⟩
            case measure => simp [intOf]; omega
          · have hr0' : (r7 == 0) = false := by rw [beq_eq_false_iff_ne]; exact hr0
            have hr0'' : (r7 != 0) = true := by rw [bne_iff_ne]; exact hr0
            obtain ⟨hfl, hwt⟩ := HR7.out hr0
            have hsz : D7.size = D.size := by unfold DiskS.size; rw [hfl]
            have hfl2 := box (show D7.files.length = D.files.length by rw [hfl])
            have hwt2 := box (show D7.waits.length = D.waits.length by rw [hwt])
            have hsz2 := box hsz
            clear hfl hwt hsz hr0
            go_wp2_with fail
            refine (hsize7.out _ (.refl _)).mono ?_
            rw [hsz2.out]
            rintro e w8 ⟨rfl, hc8⟩
            have Hc8 := box hc8
            clear hc8
            go_wp2_with fail
            refine (hwaits7.out _ Hc8.out).mono ?_
            rw [hwt2.out]
            rintro e w9 ⟨rfl, rfl⟩
            go_wp2_with fail
            refine (hlist7.out _ Hc8.out).mono ?_
            rintro e w9 ⟨lv9, rfl, hls, hc9, _⟩
            obtain ⟨la9, lcap9, rfl, _⟩ := hls.uni
            rw [names_all, hfl2.out]
            have Hc9 := box (Hc8.out.trans hc9)
            clear hc9 hls
            go_wp2_with fail
            refine (hsize7.out _ Hc9.out).mono ?_
            rintro e w8 ⟨rfl, hc8⟩
            have Hc8 := box (Hc9.out.trans hc8)
            clear hc8
            go_wp2_with fail
            refine (hroom7.out _ Hc8.out).mono ?_
            rintro e w9 ⟨rfl, hc9⟩
            have Hc9 := box (Hc8.out.trans hc9)
            clear hc9
            go_wp2_with fail
            refine (hroom7.out _ Hc9.out).mono ?_
            rintro e w10 ⟨rfl, hc10⟩
            have Hc10 := box (Hc9.out.trans hc10)
            clear hc10
            go_wp2_with fail
            go_roundw
            case rel => exact ⟨k + 1, by omega, by go_num, D7, F7, H7.out.calm Hc10.out, HC7.out, HS7.out, O7.out.calm' Hc10.out⟩
            case measure => simp [intOf]; omega
      · obtain rfl : k = l.length := by omega
        go_wp2_with fail
        go_ret
        exact ⟨rfl, HO.out.calm⟩
  · go_wp2_with fail
    go_ret
    exact ⟨rfl, O2.out.calm⟩

theorem own : ownKnob Try.prog.godebug = none := by kernel_rfl
theorem laidOut : laidOutB Try.prog = true := by kernel_rfl
set_option maxRecDepth 100000 in
set_option linter.unusedVariables false in
theorem lifted (os : Os) (started : os.Started) (H : Type) (enc : TypeId × Value → H) :
    ReturnsInHanded {} Try.checked os 5 .any (Rows.diskRoomSpec.pre6 enc Try.prog Try.f5 Rows.diskRoomRow.domain false) (Rows.diskRoomSpec.post enc Try.prog Try.f5 false true false false) := by
  refine returnsInHanded_of_change_sized (C := Try.checked) own started (by kernel_rfl) Try.func5
    (ChangeSpec.witness6 (enc := enc) (C := Try.checked) false ⟨#[], #[.int .u16 0, .slice none 0 0], []⟩ 8 (by kernel_rfl) (by kernel_rfl) (by kernel_rfl) (by kernel_rfl)) ?_
  intro W base args ds gs before hval0 hW hcnd hsz0 _
  have hsz : (DataW.weightsEach Try.prog (Try.f5.params.toList ++ []) (ds ++ gs)).all (· ≤ reachBytes) = true := hsz0
  clear hsz0
  have hval : ∀ (j : Nat) t v, Try.f5.params[j]? = some t → args[j]? = some v → Value.okWide Try.prog W .any base t v := hval0
  have hW' := hW
  obtain ⟨p, q, hA0, hV, rfl, hfz, hnd⟩ := hW
  have hA : DataW.TrodAll enc Try.prog W 0 (fun _ => true) true Try.f5.params.toList args.toList ds p := hA0
  rw [Try.params5] at hA hval hsz
  obtain ⟨v0, vs0, d0, ds0, p0, q0, hargs, rfl, rfl, h0, r0'⟩ := trodAll_cons hA
  obtain ⟨v1, vs1, d1, ds1, p1, q1, rfl, rfl, rfl, h1, r1'⟩ := trodAll_cons r0'
  obtain ⟨rfl, rfl, rfl⟩ := trodAll_nil r1'
  obtain rfl : args = #[v0, v1] := by cases args; simp_all
  obtain ⟨rfl, rfl⟩ := trodVars_none hV
  clear hA0 hval0
  have wt0 := fun n hn => (by simpa using List.all_eq_true.1 hsz n (DataW.weights_mem_each (j := 0) rfl rfl n hn) : n ≤ reachBytes)
  have wt1 := fun n hn => (by simpa using List.all_eq_true.1 hsz n (DataW.weights_mem_each (j := 1) rfl rfl n hn) : n ≤ reachBytes)
  have hlt : ∀ x ∈ p0 ++ (p1 ++ []), x.block < W.heap.size := fun x hx => by have := hW'.lt x (by simpa using hx); simpa using this
  obtain ⟨a0, e0, _, _, w0⟩ := open_int Try.underlying42 (hval 0 42 v0 rfl rfl) h0
  subst e0
  obtain ⟨l1, r1⟩ := slice_arg Try.underlying22 (hval 1 22 v1 rfl rfl) ((opens_slice (c := 8) Try.underlying22 (by kernel_rfl) (by decide) (opens_op)).arg h1)
  refine (walk W a0 w0 v1 l1 r1).mono fun e W' ⟨he, hg⟩ => ?_
  subst he
  refine ⟨_, rfl, _, _, _, [] ++ [], p0 ++ (p1 ++ []), [], hW', ?_, ?_, ?_, hg.frame _, fun h => by cases h⟩
  · exact trodAll_mk1 (shut_bool Try.underlying4 true)
  · exact trodAll_cons_mk (Below.trod laidOut (by kernel_rfl) (of_decide_eq_true (by kernel_rfl)) h0 hg (fun x hx => hlt x (by simp [hx]))) (trodAll_cons_mk (Below.trod laidOut (by kernel_rfl) (of_decide_eq_true (by kernel_rfl)) h1 hg (fun x hx => hlt x (by simp [hx]))) (trodAll_mk0))
  · exact rfl

theorem over : Rows.diskRoomRow.holds Try.pinned (OpenSpec.ofChange Rows.diskRoomSpec) :=
  OpenClaim.holds_of_wide 5 Try.f5 rfl rfl rfl rfl rfl rfl rfl ⟨rfl, rfl, rfl, rfl, rfl⟩ rfl rfl rfl rfl rfl (by kernel_rfl) Try.func5 (by kernel_rfl)
    (of_decide_eq_true (by kernel_rfl)) (by unfold Func.isWrapper; first | (rw [if_pos (by decide +kernel)]; kernel_rfl) | (rw [if_neg (by decide +kernel)]; exact ⟨rfl, rfl⟩))
    (fun os started H enc _ => lifted os started H enc)

theorem proved : Rows.DiskRoomSaid := over
#print axioms proved
end Go.Proofs.Ytbmhjojlbmbpkaa.droom
