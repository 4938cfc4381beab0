/- WheelSlots: each slot has what was set last, the file has just these bytes; others are refused. No condition. -/
import Derived.Test.YtbmhjojlbmbpkaaRows
import Derived.WalkKit
import Derived.ProofKit
import Derived.OpenShut
import Derived.Handy
import Derived.Deep.LoopGhost
import Derived.Lib.Hide
import Derived.Lib.Strings
import Derived.SizedLaws
import Derived.Maps.Own
import Derived.Maps.OwnOps
import Derived.Maps.OwnSet
import Derived.Maps.RangeWalk
import Derived.Deep.QuietTactic
import Derived.BigQuiet
import Derived.Deep.RegionHeld3
import Derived.Lib.ConvBytes
import Derived.Lib.AppendZeros
import Derived.Lib.AppendZerosOnto
import Derived.Lib.LazyBuf
import Derived.Shelf.Abstract
import Derived.LaidEql
import Derived.Lib.SliceRun
import Derived.StillTailTactics
import Derived.Deep.Slices
import Derived.Shelf.SlIter.Nil
import Derived.Ground.GgzProg
import Derived.Shelf.SortM.Plain
import Derived.Shelf.SortM.SortNone
import Derived.Ground.SlgmProg
import Derived.Shelf.SlicesE.DeleteFunc
import Derived.Ground.SlgfProg
import Derived.Test.YtbmhjojlbmbpkaaProg
import Derived.Shelf.Strings.Builder1
import Derived.Shelf.Small.Bits
import Derived.Shelf.Strings.BuilderF
import Derived.Shelf.Strings.BuilderK
import Derived.Shelf.Strconv.Itoa0
import Derived.Shelf.Sort.Plain
import Derived.Shelf.Strings.Prefix
import Derived.Shelf.Strings.BuilderCap
import Derived.Shelf.Slices.In.SortNone
import Derived.Shelf.SlicesE.IndexFunc
import Derived.Laws.MakeOwn
import Derived.Lib.Builder
import Derived.Lib.AppendStr
import Derived.Test.YtbmhjojlbmbpkaaPk15
namespace Go.Proofs.Ytbmhjojlbmbpkaa.wsl
open Go.ChangeShapes Go.WideShapes Go.ChangeAt Go.RowKit
open Go.Proofs.Ytbmhjojlbmbpkaa.dk Go.Proofs.Ytbmhjojlbmbpkaa.oc Go.Proofs.Ytbmhjojlbmbpkaa.wh

theorem slot_no {x : Int} (h : x < 0 ∨ 15 < x) : slotBad x = true := by
  unfold slotBad
  rcases h with h | h
  · rw [decide_eq_true h]; rfl
  · rw [decide_eq_true (p := 16 ≤ x) (by omega), Bool.or_true]
theorem calm_set {a w : World} (h : Calm a w) {b k : Nat} (hp : a.heap.size ≤ b) (u : Value) : Calm a (w.setCell ⟨b, k, none⟩ u) :=
  ((Keeps.of_calm (F := fun b => a.heap.size ≤ b) h).setCell (p := ⟨b, k, none⟩) (.inr hp) u).below (Nat.le_refl _) (fun _ h => h)
theorem marks_shape {w : World} {v : Value} {H : List Nat} (h : IntsAt w v (marks H)) (hl : H.length = 16) : ∃ a cap, v = .slice a 16 cap := by
  obtain ⟨a, cap, rfl, _⟩ := h
  exact ⟨a, cap, by rw [List.length_map, hl]⟩
set_option maxRecDepth 100000 in
set_option maxHeartbeats 16000000 in
theorem walk (W : World) (v : Value) (l : List (Int × Int)) (r : RowsAt (PairR .i64) 2 W v l) (ask : Int) (hask : (Lit.int .i64 ask).wf = true) :
    Calls Try.prog 7 #[v, .int .i64 ask] W fun e W' => e = .returned (.bool true) ∧ Calm W W' := by
  have hask2 : -9223372036854775808 ≤ ask ∧ ask ≤ 9223372036854775807 := by unfold Lit.wf at hask; simp [IntKind.min, IntKind.max, IntKind.bits, IntKind.signed] at hask; omega
  obtain ⟨hk0, hk1⟩ := hask2
  obtain ⟨a, cap, rfl, hml, hel⟩ := r.pairs
  have Hel := box hel
  clear hel r hask
  unfold maxLen at hml
  go_enter Try.func7, Try.ntmps7
  go_wp2_with fail
  refine (awake_any _).mono ?_
  rintro e w1 ⟨rfl, hca⟩
  have O1 := box ((Owns.refl W).calm' hca)
  clear hca
  by_cases h100 : 100 < l.length
  · go_wp2_with fail
    go_ret
    exact ⟨rfl, O1.out.calm⟩
  · go_wp2_with fail
    refine (New_ok _ 1000).mono ?_
    rintro e w2 ⟨p, F2, rfl, h2, hc2, hF2⟩
    have H2 := box h2
    have O2 := box (O1.out.new hc2 hF2)
    clear h2 hc2 hF2
    go_wp2_with fail
    refine (Create_ok oldN _ H2.out).mono ?_
    rintro e w3 ⟨b3, _, hok⟩
    obtain ⟨rfl, F3, h3, hs3⟩ := hok.at (va_make b3)
    have H3 := box h3
    have O3 := box (O2.out.step hs3)
    clear h3 hs3 hok
    go_wp2_with fail
    refine (Create_ok xN _ H3.out).mono ?_
    rintro e w4 ⟨b4, _, hok⟩
    obtain ⟨rfl, F4, h4, hs4⟩ := hok.at (vb_make b3 b4)
    have H4 := box h4
    have O4 := box (O3.out.step hs4)
    clear h4 hs4 hok
    go_wp2_with fail
    refine (New_old _ H4.out).mono ?_
    rintro e w5 ⟨q, b, F5, rfl, h5, hs5, hq, hq5, hF5⟩
    have H5 := box h5
    have O5 := box (O4.out.step hs5)
    have Q5 := box hq
    have HF5 := box hF5
    clear h5 hs5 hq hq5 hF5
    have hlist := box (List_any ⟨#[]⟩ w5 H5.out.lies (small_names b4 b) (by simp [ve]))
    unfold ListDone at hlist
    rw [ve_names] at hlist
    go_wp2_with fail
    refine hlist.out.mono ?_
    rintro e w6 ⟨v6, rfl, hv6, hc6, _⟩
    have V6 := box hv6
    have C6 := box hc6
    obtain ⟨a6, cap6, rfl, _⟩ := hv6.uni
    clear hv6 hc6 hlist
    have hlit := box (show Calls Try.prog 30 #[.slice a6 2 cap6, .slice (some ⟨w6.heap.size, 0, none⟩) 2 2] (w6.alloc (.cells #[.string wslots, .string xN] 9)) fun e w' => e = .returned (.bool true) ∧ Calm (w6.alloc (.cells #[.string wslots, .string xN] 9)) w' from by
      have h := Texts_any (.slice a6 2 cap6) (.slice (some ⟨w6.heap.size, 0, none⟩) 2 2) [wslots, xN] [wslots, xN] (w6.alloc (.cells #[.string wslots, .string xN] 9)) (V6.out.calm ((Calm.refl w6).alloc _)) (StrsAt.two (cell_of (heap_new w6 _) 0) (cell_of (heap_new w6 _) 1)) (by decide) (by decide)
      rwa [decide_eq_true rfl] at h)
    go_wp2_with fail
    refine hlit.out.mono ?_
    rintro e w7 ⟨rfl, hc7⟩
    have C7 := box (C6.out.trans (((Calm.refl w6).alloc _).trans hc7))
    clear hc7 V6 hlit
    have hmk := made_want w7
    have HX0 := box (show (w7.alloc (.cells (madeCells #[Value.int .i64 0] 16) 3)).heap[w7.heap.size]? = some (.cells (wantC (List.replicate 16 0)) 3 (0, 0)) by rw [← want_new]; exact heap_new w7 _)
    have C8 := box (C7.out.trans ((Calm.refl w7).alloc (.cells (madeCells #[Value.int .i64 0] 16) 3)))
    have hF57 := box (show ¬ F5 w7.heap.size from fun h => by have := H5.out.foot_lt _ h; have := C7.out.size; omega)
    have hq7 := box (show q ≠ w7.heap.size from fun e => by have := heap_lt Q5.out; have := C7.out.size; omega)
    have hW7 := box (show W.heap.size ≤ w7.heap.size from Nat.le_trans O5.out.calm.size C7.out.size)
    go_wp2_with fail
    go_loopw [52] (fun i wr => ∃ (k : Nat) (D : DiskS) (F : Nat → Prop) (H : List Nat), k ≤ l.length ∧ i = .int .i64 k ∧ DiskOk wr p D F (k + 1) ∧ WhD D H ∧ D.size ≤ D.cap ∧ WheelAt wr q p 0 ∧ ¬ F q ∧ ¬ F w7.heap.size ∧ Owns W wr F ∧ wr.heap[w7.heap.size]? = some (.cells (wantC H) 3 (0, 0))) (fun i _ => l.length - (intOf i).toNat)
    case atStart => exact ⟨0, _, _, _, Nat.zero_le _, rfl, H5.out.calm C8.out, ve_holds b4 b, ve_size b4 b, Q5.out.calm C8.out, HF5.out, hF57.out, O5.out.calm' C8.out, HX0.out⟩
    case round =>
      clear hmk HX0 H2 H3 H4 H5 O1 O2 O3 O4 O5 Q5 HF5
      obtain ⟨k, D, F, H, hk, rfl, hd, hw, hcap, hq, hFq, hF7, hO, hX⟩ := hrel
      have HD := box hd
      have HW := box hw
      have HQ := box hq
      have HFq := box hFq
      have HF7 := box hF7
      have HO := box hO
      have Hcap := box hcap
      have HX := box hX
      have hl16 := hw.len
      clear hd hw hcap hq hFq hF7 hO hX
      obtain ⟨wo, hwo⟩ : ∃ wo : World, wo = wr := ⟨_, rfl⟩
      subst hwo
      by_cases hlt : k < l.length
      · obtain ⟨lb, loff, rfl, hlb, hc0, hc1, hx, hy⟩ := Hel.out k hlt
        have d0 := (HO.out.calm.cell (p := ⟨lb, loff + k * 2, none⟩) hlb).trans hc0
        have d1 := (HO.out.calm.cell (p := ⟨lb, loff + k * 2 + 1, none⟩) hlb).trans hc1
        have hlbo := Nat.lt_of_lt_of_le hlb HO.out.calm.size
        obtain ⟨⟨x, y⟩, hxy⟩ : ∃ z, l[k] = z := ⟨_, rfl⟩
        rw [hxy] at d0 d1 hx hy
        clear hxy hc0 hc1
        simp only at d0 d1 hx hy
        have hyb : -9223372036854775808 ≤ y ∧ y ≤ 9223372036854775807 := ⟨hy.1, hy.2⟩
        clear hx hy
        have Ha := box ((Calm.refl wo).alloc (.cells #[.int .i64 x, .int .i64 y] 58))
        have Hn := box (heap_new wo (.cells #[.int .i64 x, .int .i64 y] 58))
        have hset := box (Set_any q 0 x y _ (HD.out.calm Ha.out) (by omega) (HQ.out.calm Ha.out) HFq.out hyb)
        have hx64 : True := trivial
        by_cases hx15 : x < 0 ∨ 15 < x
        · rw [wset_slot x y (slot_no hx15)] at hset
          go_wp2_with fail
          refine hset.out.mono ?_
          rintro e w5 ⟨rfl, F6, h6, hs6⟩
          have j6 := hs6.same Hn.out (fun hf => by have := HD.out.foot_lt _ hf; omega)
          have r0 := cell_of j6 0
          have r1 := cell_of j6 1
          have jlt := heap_lt j6
          have H6 := box h6
          have Q6 := box ((HQ.out.calm Ha.out).keep hs6.keeps HFq.out)
          have Fq6 := box (show ¬ F6 q from fun hf => by
            rcases hs6.foot q hf with hf | hf
            · exact HFq.out hf
            · have := heap_lt (HQ.out.calm Ha.out); omega)
          have F76 := box (show ¬ F6 w7.heap.size from fun hf => by
            rcases hs6.foot _ hf with hf | hf
            · exact HF7.out hf
            · have := heap_lt (heap_calm Ha.out HX.out); omega)
          have O6 := box ((HO.out.calm' Ha.out).step hs6)
          have X6 := box (hs6.same (heap_calm Ha.out HX.out) HF7.out)
          clear h6 hs6 j6 hset d0 d1
          rcases hx15 with hx0 | hx0
          all_goals
            go_wp2_with fail
            go_roundw
            case rel => exact ⟨k + 1, D, F6, H, by omega, by go_num, H6.out, HW.out, Hcap.out, Q6.out, Fq6.out, F76.out, O6.out, X6.out⟩
            case measure => simp [intOf]; omega
        · have hx0 : 0 ≤ x := by omega
          have hx1 : x ≤ 15 := by omega
          by_cases hy48 : y < 0 ∨ 281474976710656 ≤ y
          · obtain ⟨x', rfl⟩ : ∃ x' : Nat, x = x' := ⟨x.toNat, by omega⟩
            rw [wset_big (x' : Int) y (slotOk (by omega)) (fits_no hy48)] at hset
            go_wp2_with fail
            refine hset.out.mono ?_
            rintro e w5 ⟨rfl, F6, h6, hs6⟩
            have j6 := hs6.same Hn.out (fun hf => by have := HD.out.foot_lt _ hf; omega)
            have r0 := cell_of j6 0
            have r1 := cell_of j6 1
            have jlt := heap_lt j6
            have H6 := box h6
            have Q6 := box ((HQ.out.calm Ha.out).keep hs6.keeps HFq.out)
            have Fq6 := box (show ¬ F6 q from fun hf => by
              rcases hs6.foot q hf with hf | hf
              · exact HFq.out hf
              · have := heap_lt (HQ.out.calm Ha.out); omega)
            have F76 := box (show ¬ F6 w7.heap.size from fun hf => by
              rcases hs6.foot _ hf with hf | hf
              · exact HF7.out hf
              · have := heap_lt (heap_calm Ha.out HX.out); omega)
            have O6 := box ((HO.out.calm' Ha.out).step hs6)
            have X6 := box (hs6.same (heap_calm Ha.out HX.out) HF7.out)
            clear h6 hs6 j6 hset d0 d1
            rcases hy48 with hy0 | hy0
            all_goals
              go_wp2_with fail
              go_roundw
              case rel => exact ⟨k + 1, D, F6, H, by omega, by go_num, H6.out, HW.out, Hcap.out, Q6.out, Fq6.out, F76.out, O6.out, X6.out⟩
              case measure => simp [intOf]; omega
          · obtain ⟨x', rfl⟩ : ∃ x' : Nat, x = x' := ⟨x.toNat, by omega⟩
            obtain ⟨y', rfl⟩ : ∃ y' : Nat, y = y' := ⟨y.toNat, by omega⟩
            have hx16 : x' < 16 := by omega
            have hy0 : y' < 281474976710656 := by omega
            obtain ⟨E, hE, hWE, hbut, hsz⟩ := HW.out.set HD.out.form x' y' hx16 hy0 Hcap.out
            have WE := box hWE
            have CapE := box (show (E.size : Int) ≤ E.cap by rw [hsz, hbut.cap]; exact Hcap.out)
            have HE := box hE
            clear hE hWE hbut hsz
            go_wp2_with fail
            refine hset.out.mono ?_
            rintro e w5 hok
            obtain ⟨rfl, F6, h6, hs6⟩ := hok.at HE.out
            clear hok
            have j6 := hs6.same Hn.out (fun hf => by have := HD.out.foot_lt _ hf; omega)
            have r0 := cell_of j6 0
            have r1 := cell_of j6 1
            have jlt := heap_lt j6
            have H6 := box h6
            have Q6 := box ((HQ.out.calm Ha.out).keep hs6.keeps HFq.out)
            have Fq6 := box (show ¬ F6 q from fun hf => by
              rcases hs6.foot q hf with hf | hf
              · exact HFq.out hf
              · have := heap_lt (HQ.out.calm Ha.out); omega)
            have F76 := box (show ¬ F6 w7.heap.size from fun hf => by
              rcases hs6.foot _ hf with hf | hf
              · exact HF7.out hf
              · have := heap_lt (heap_calm Ha.out HX.out); omega)
            have O6 := box ((HO.out.calm' Ha.out).step hs6)
            have X6 := box (hs6.same (heap_calm Ha.out HX.out) HF7.out)
            clear h6 hs6 j6 hset d0 d1
            have hcx := want_cell X6.out x' (by omega)
            have hfx := free_of X6.out x'
            have h7lt := heap_lt X6.out
            have K := box ((Keeps.refl (fun b => b = w7.heap.size) w5).setCell (p := ⟨w7.heap.size, x', none⟩) (.inl rfl) (.int .i64 (y' : Int)))
            have O7 := box (show Owns W (w5.setCell ⟨w7.heap.size, x', none⟩ (.int .i64 (y' : Int))) F6 from ⟨calm_set O6.out.calm hW7.out _, O6.out.foot⟩)
            have H7 := box (H6.out.keep K.out (fun b hb e => F76.out (e ▸ hb)))
            have Q7 := box (Q6.out.keep K.out hq7.out)
            have X7 := box (show (w5.setCell ⟨w7.heap.size, x', none⟩ (.int .i64 (y' : Int))).heap[w7.heap.size]? = some (.cells (wantC (H.set x' y')) 3 (0, 0)) by rw [← want_set]; exact heap_set X6.out x' _)
            have hx1' : ((x' : Nat) : Int) < 16 := by omega
            clear hyb hy48
            go_wp2_with fail
            go_roundw
            case rel => exact ⟨k + 1, E, F6, _, by omega, by go_num, H7.out, WE.out, CapE.out, Q7.out, Fq6.out, F76.out, O7.out, X7.out⟩
            case measure => simp [intOf]; omega
      · obtain rfl : k = l.length := by omega
        go_wp2_with fail
        go_loopw [12, 95] (fun s i wr => ∃ j : Nat, j ≤ 16 ∧ i = .int .i64 j ∧ s = .string ⟨((H.take j).flatMap (low 6)).toArray⟩ ∧ Calm wo wr) (fun _ i _ => 16 - (intOf i).toNat)
        case atStart => exact ⟨0, by omega, rfl, rfl, Calm.refl _⟩
        case round =>
          obtain ⟨j, hj, rfl, rfl, hcal⟩ := hrel
          have HC := box hcal
          clear hcal
          obtain ⟨wi, hwi⟩ : ∃ wi : World, wi = wr := ⟨_, rfl⟩
          subst hwi
          have XC := box (heap_calm HC.out HX.out)
          by_cases hj16 : j < 16
          · have hcell := want_cell XC.out j (by omega)
            have h7lt := heap_lt XC.out
            have hsm : H[j] < 281474976710656 := HW.out.small _ (List.getElem_mem _)
            have hflat := box (show (⟨((H.take j).flatMap (low 6)).toArray⟩ : ByteArray) ++ ⟨(low 6 H[j]).toArray⟩ = ⟨((H.take (j + 1)).flatMap (low 6)).toArray⟩ from fl.bytes_ext (by rw [append_toList, List.take_succ_eq_append_getElem (by omega), List.flatMap_append]; simp))
            have z1 : (⟨((H.take j).flatMap (low 6)).toArray⟩ : ByteArray).size = 6 * j := by rw [fl.bytes_size, fl.flat_length _ 6 (low_length 6), List.length_take]; omega
            obtain ⟨y, hy⟩ : ∃ y, H[j] = y := ⟨_, rfl⟩
            rw [hy] at hcell hsm hflat
            have z2 : (⟨(low 6 y).toArray⟩ : ByteArray).size = 6 := low_size 6 y
            obtain ⟨s, hs⟩ : ∃ s : ByteArray, ⟨((H.take j).flatMap (low 6)).toArray⟩ = s := ⟨_, rfl⟩
            have hnum := box (rNum_any 6 y wi (by decide) (by omega))
            obtain ⟨u, hu⟩ : ∃ u : ByteArray, ⟨(low 6 y).toArray⟩ = u := ⟨_, rfl⟩
            rw [hs, hu] at hflat
            rw [hs] at z1 ⊢
            rw [hu] at z2 hnum
            clear hs hu hy
            go_wp2_with fail
            refine hnum.out.mono ?_
            rintro e w8 ⟨rfl, hc8⟩
            have C8 := box (HC.out.trans hc8)
            clear hc8
            go_wp2_with fail
            go_roundw
            case rel => exact ⟨j + 1, by omega, by go_num, congrArg Value.string hflat.out, C8.out⟩
            case measure => simp [intOf]; omega
          · obtain rfl : j = 16 := by omega
            have hall : D.all wslots = (⟨(H.flatMap (low 6)).toArray⟩, 0) := all_bytes HW.out.alive HW.out.slots
            have hA := box (All_any wi wslots (HD.out.lies.calm HC.out))
            rw [hall] at hA
            have htk : H.take 16 = H := List.take_of_length_le (by omega)
            rw [htk]
            obtain ⟨s, hs⟩ : ∃ s : ByteArray, ⟨(H.flatMap (low 6)).toArray⟩ = s := ⟨_, rfl⟩
            rw [hs] at hA ⊢
            clear hall htk hs
            go_wp2_with fail
            refine hA.out.mono ?_
            rintro e w8 ⟨rfl, hc8⟩
            have C8 := box (HC.out.trans hc8)
            clear hc8
            have hh := box (Heads_any q 0 w8 (HD.out.calm C8.out) (HQ.out.calm C8.out) HW.out)
            go_wp2_with fail
            refine hh.out.mono ?_
            rintro e w9 ⟨v9, rfl, hv9, _, hc9⟩
            obtain ⟨a9, cap9, rfl⟩ := marks_shape hv9 hl16
            have V9 := box hv9
            have C9 := box (C8.out.trans hc9)
            clear hv9 hc9
            have hd := box (Head_any q 0 ask w9 (HD.out.calm C9.out) (HQ.out.calm C9.out))
            by_cases hin : ask < 0 ∨ 15 < ask
            · rw [whd_slot ask (slot_no hin)] at hd
              go_wp2_with fail
              refine hd.out.mono ?_
              rintro e w10 ⟨rfl, hc10⟩
              have C10 := box (C9.out.trans hc10)
              clear hc10
              rcases hin with hi | hi
              all_goals
                go_wp2_with fail
                go_ret
                exact ⟨rfl, (HO.out.calm' C10.out).calm⟩
            · obtain ⟨z, rfl⟩ : ∃ z : Nat, ask = z := ⟨ask.toNat, by omega⟩
              have hz : z < 16 := by omega
              rw [HW.out.head z hz] at hd
              go_wp2_with fail
              refine hd.out.mono ?_
              rintro e w10 ⟨rfl, hc10⟩
              have C10 := box (C9.out.trans hc10)
              have X10 := box (heap_calm C10.out HX.out)
              have hints := box (Ints_any (.slice a9 16 cap9) (.slice (some ⟨w7.heap.size, 0, none⟩) 16 16) (marks H) (marks H) w10 (V9.out.calm hc10) (want_ints hl16 X10.out))
              rw [decide_eq_true rfl] at hints
              clear hc10
              go_wp2_with fail
              refine hints.out.mono ?_
              rintro e w11 ⟨rfl, hc11⟩
              have C11 := box (C10.out.trans hc11)
              have hcz := want_cell (heap_calm C11.out HX.out) z (by omega)
              have h7lt := heap_lt (heap_calm C11.out HX.out)
              clear hc11
              go_wp2_with fail
              go_ret
              exact ⟨ret_bool (by simp), (HO.out.calm' C11.out).calm⟩

theorem own : ownKnob Try.prog.godebug = none := by kernel_rfl
theorem laidOut : laidOutB Try.prog = true := by kernel_rfl
set_option maxRecDepth 100000 in
set_option linter.unusedVariables false in
theorem lifted (os : Os) (started : os.Started) (H : Type) (enc : TypeId × Value → H) :
    ReturnsInHanded {} Try.checked os 7 .any (Rows.wheelSlotsSpec.pre6 enc Try.prog Try.f7 Rows.wheelSlotsRow.domain false) (Rows.wheelSlotsSpec.post enc Try.prog Try.f7 false true false false) := by
  refine returnsInHanded_of_change_sized (C := Try.checked) own started (by kernel_rfl) Try.func7
    (ChangeSpec.witness6 (enc := enc) (C := Try.checked) false ⟨#[], #[.slice none 0 0, .int .i64 0], []⟩ 8 (by kernel_rfl) (by kernel_rfl) (by kernel_rfl) (by kernel_rfl)) ?_
  intro W base args ds gs before hval0 hW hcnd hsz0 _
  have hsz : (DataW.weightsEach Try.prog (Try.f7.params.toList ++ []) (ds ++ gs)).all (· ≤ reachBytes) = true := hsz0
  clear hsz0
  have hval : ∀ (j : Nat) t v, Try.f7.params[j]? = some t → args[j]? = some v → Value.okWide Try.prog W .any base t v := hval0
  have hW' := hW
  obtain ⟨p, q, hA0, hV, rfl, hfz, hnd⟩ := hW
  have hA : DataW.TrodAll enc Try.prog W 0 (fun _ => true) true Try.f7.params.toList args.toList ds p := hA0
  rw [Try.params7] at hA hval hsz
  obtain ⟨v0, vs0, d0, ds0, p0, q0, hargs, rfl, rfl, h0, r0'⟩ := trodAll_cons hA
  obtain ⟨v1, vs1, d1, ds1, p1, q1, rfl, rfl, rfl, h1, r1'⟩ := trodAll_cons r0'
  obtain ⟨rfl, rfl, rfl⟩ := trodAll_nil r1'
  obtain rfl : args = #[v0, v1] := by cases args; simp_all
  obtain ⟨rfl, rfl⟩ := trodVars_none hV
  clear hA0 hval0
  have wt0 := fun n hn => (by simpa using List.all_eq_true.1 hsz n (DataW.weights_mem_each (j := 0) rfl rfl n hn) : n ≤ reachBytes)
  have wt1 := fun n hn => (by simpa using List.all_eq_true.1 hsz n (DataW.weights_mem_each (j := 1) rfl rfl n hn) : n ≤ reachBytes)
  have hlt : ∀ x ∈ p0 ++ (p1 ++ []), x.block < W.heap.size := fun x hx => by have := hW'.lt x (by simpa using hx); simpa using this
  obtain ⟨l0, r0⟩ := slice_arg Try.underlying56 (hval 0 56 v0 rfl rfl) ((opens_slice (c := 2) Try.underlying56 (by kernel_rfl) (by decide) (opens_pair Try.underlying58 Try.underlying3 (by kernel_rfl) (by kernel_rfl))).arg h0)
  obtain ⟨a1, e1, _, _, w1⟩ := open_int Try.underlying3 (hval 1 3 v1 rfl rfl) h1
  subst e1
  refine (walk W v0 l0 r0 a1 w1).mono fun e W' ⟨he, hg⟩ => ?_
  subst he
  refine ⟨_, rfl, _, _, _, [] ++ [], p0 ++ (p1 ++ []), [], hW', ?_, ?_, ?_, hg.frame _, fun h => by cases h⟩
  · exact trodAll_mk1 (shut_bool Try.underlying4 true)
  · exact trodAll_cons_mk (Below.trod laidOut (by kernel_rfl) (of_decide_eq_true (by kernel_rfl)) h0 hg (fun x hx => hlt x (by simp [hx]))) (trodAll_cons_mk (Below.trod laidOut (by kernel_rfl) (of_decide_eq_true (by kernel_rfl)) h1 hg (fun x hx => hlt x (by simp [hx]))) (trodAll_mk0))
  · exact rfl

theorem over : Rows.wheelSlotsRow.holds Try.pinned (OpenSpec.ofChange Rows.wheelSlotsSpec) :=
  OpenClaim.holds_of_wide 7 Try.f7 rfl rfl rfl rfl rfl rfl rfl ⟨rfl, rfl, rfl, rfl, rfl⟩ rfl rfl rfl rfl rfl (by kernel_rfl) Try.func7 (by kernel_rfl)
    (of_decide_eq_true (by kernel_rfl)) (by unfold Func.isWrapper; first | (rw [if_pos (by decide +kernel)]; kernel_rfl) | (rw [if_neg (by decide +kernel)]; exact ⟨rfl, rfl⟩))
    (fun os started H enc _ => lifted os started H enc)

theorem proved : Rows.WheelSlotsSaid := over
#print axioms proved
end Go.Proofs.Ytbmhjojlbmbpkaa.wsl
