/- TopicTables' walk. -/
import Derived.Test.YtccbfekajbnehaaGreatRows
import Derived.WalkKit
import Derived.ProofKit
import Derived.OpenShut
import Derived.Handy
import Derived.Deep.LoopGhost
import Derived.Lib.Hide
import Derived.Lib.Strings
import Derived.SizedLaws
import Derived.Maps.Own
import Derived.Maps.OwnOps
import Derived.Maps.OwnSet
import Derived.Maps.RangeWalk
import Derived.Deep.QuietTactic
import Derived.BigQuiet
import Derived.Deep.RegionHeld3
import Derived.Lib.ConvBytes
import Derived.Lib.AppendZeros
import Derived.Lib.AppendZerosOnto
import Derived.Lib.LazyBuf
import Derived.Shelf.Abstract
import Derived.LaidEql
import Derived.Lib.SliceRun
import Derived.StillTailTactics
import Derived.Deep.Slices
import Derived.Shelf.Strings.Builder1
import Derived.Shelf.Small.Bits
import Derived.Shelf.Small.Wraps
import Derived.Shelf.Strings.BuilderF
import Derived.Shelf.Strings.BuilderK
import Derived.Shelf.Strconv.Itoa0
import Derived.Shelf.Sort.Plain
import Derived.Shelf.GgClosure.StringsIndexFunc
import Derived.Ground.GgwProg
import Derived.Shelf.GgClosure.StringsIndexFuncTop
import Derived.Shelf.GgClosure.StringsRunes
import Derived.Shelf.Strings.Prefix
import Derived.Shelf.Strings.BuilderCap
import Derived.Shelf.Slices.In.SortNone
import Derived.Ground.SlgfProg
import Derived.Shelf.SlicesE.IndexFunc
import Derived.Shelf.SlicesE.DeleteFunc
import Derived.Test.YtccbfekajbnehaaGreatProg
import Derived.Lib.DecodeN
import Derived.Shelf.SlicesQ.IndexFunc
import Derived.Shelf.SlicesE.Clone
import Derived.Ground.SlgnProg
import Derived.Laws.MakeOwn
import Derived.Lib.Builder
import Derived.Lib.AppendStr
import Derived.Laws.Rows
import Derived.Shelf.SlIter.Nil
import Derived.Ground.GgzProg
import Derived.Shelf.SortM.Plain
import Derived.Shelf.SortM.SortNone
import Derived.Ground.SlgmProg
import Derived.Laws.BitsLemmas
import Derived.Laws.ResultCell
import Derived.Laws.StructEq
import Derived.Laws.Cover3
import Derived.OwnWalk
import Derived.Deep.DeepCutAuto
import Derived.Deep.RegionLaw
import Derived.Deep.CutBlock
import Derived.Deep.CutRange
import Derived.Outline
import Derived.Test.YtccbfekajbnehaaGreatPk25
namespace Go.Proofs.YtccbfekajbnehaaGreat.ttab
open Go.ChangeShapes Go.WideShapes Go.ChangeAt Go.RowKit
open Go.Proofs.YtccbfekajbnehaaGreat.dk Go.Proofs.YtccbfekajbnehaaGreat.tp Go.Proofs.YtccbfekajbnehaaGreat.nm

set_option maxRecDepth 100000 in
set_option maxHeartbeats 60000000 in
theorem walk (W : World) (v : Value) (l : List TopS) (r : RowsAt TopR 2 W v l) (ask : ByteArray) (zask : ask.size ≤ maxLen) (qq : Int) (hwf : (Lit.int .i64 qq).wf = true) :
    Calls Tryz.prog 4 #[v, .string ask, .int .i64 qq] W fun e W' => e = .returned (.bool true) ∧ Calm W W' := by
  obtain ⟨a, cap, rfl, hml, hel⟩ := ttab.RowsAt.tops r
  have Hel := box hel
  clear hel r hwf
  unfold maxLen at hml zask
  go_enter Tryz.func4, Tryz.ntmps4
  go_wp2_with fail
  refine (tp.awake_any _).mono ?_
  rintro e w1 ⟨rfl, hca⟩
  have O1 := box ((Owns.refl W).calm' hca)
  clear hca
  by_cases h40 : 40 < l.length
  · go_wp2_with fail
    go_ret
    exact ⟨rfl, O1.out.calm⟩
  by_cases h100 : 100 < ask.size
  · go_wp2_with fail
    go_ret
    exact ⟨rfl, O1.out.calm⟩
  · have hn : l.length ≤ 40 := by omega
    have hask : ask.size ≤ 100 := by omega
    go_wp2_with fail
    refine (New_ok _ 10000).mono ?_
    rintro e w2 ⟨p, F, rfl, h2, hc2, hF2⟩
    have H2 := box h2
    have O2 := box (O1.out.new hc2 hF2)
    clear h2 hc2 hF2 hml h40 h100 zask
    go_wp2_with fail
    refine (Open_tb w2 H2.out (by decide) (by decide)).mono ?_
    rw [new_open]
    rintro e w3 ⟨hc3, t, rfl, hT, ht⟩
    obtain ⟨v0, hv0, hr0⟩ := hT.at_
    have HR0 := box (show TabR p t W 0 [] (.slice none 0 0) w3 from ⟨_, F, v0, H2.out.calm hc3, ⟨new_alive _, by decide, trivial, rfl⟩, hv0, hr0, fun hf => by have := H2.out.foot_lt _ hf; omega, O2.out.calm' hc3, Nat.le_trans O2.out.calm.size ht, World.ownsRow_nil _ _ _ _, fun g hg => by cases hg⟩)
    clear hc3 hT ht hv0 hr0 H2 O1 O2
    go_wp2_with fail
    go_loopw [10, 47] (fun av iv wr => ∃ (k : Nat) (lst : List TopS), k ≤ l.length ∧ iv = .int .i64 k ∧ TabR p t W k lst av wr) (fun _ iv _ => l.length - (intOf iv).toNat)
    case atStart => exact ⟨0, [], Nat.zero_le _, rfl, HR0.out⟩
    case round =>
      clear HR0
      obtain ⟨k, lst, hk, rfl, hR⟩ := hrel
      have HR := box hR
      obtain ⟨D, F, v, hS⟩ := hR
      have HS := box hS
      obtain ⟨aa, acap, hav, _⟩ := topRow.tops hS.out
      subst hav
      have hl6 := hS.tabs.len
      clear hS
      obtain ⟨wo, hwo⟩ : ∃ wo : World, wo = wr := ⟨_, rfl⟩
      subst hwo
      by_cases hlt : k < l.length
      · obtain ⟨lb, loff, rfl, hlb, hc0, hc1, z0, z1, z2⟩ := Hel.out k hlt
        have d0 := (HS.out.owns.calm.cell (p := ⟨lb, loff + k * 2, none⟩) hlb).trans hc0
        have d1 := (HS.out.owns.calm.cell (p := ⟨lb, loff + k * 2 + 1, none⟩) hlb).trans hc1
        have hlbo := Nat.lt_of_lt_of_le hlb HS.out.owns.calm.size
        obtain ⟨⟨xn, xq⟩, hx⟩ : ∃ z, l[k] = z := ⟨_, rfl⟩
        simp only [hx] at d0 d1 z0 z1 z2
        have Ha := box ((Calm.refl wo).alloc (.cells #[.string xn, .int .i64 xq] 40))
        have Hnew := box (heap_new wo (.cells #[.string xn, .int .i64 xq] 40))
        clear hx hc0 hc1
        by_cases hbig : 100 < xn.size
        · go_wp2_with fail
          go_ret
          exact ⟨rfl, Calm.trans HS.out.owns.calm Ha.out⟩
        · have hadd := box (fun (W2 : World) (hc : Calm (wo.alloc (.cells #[.string xn, .int .i64 xq] 40)) W2) => TabR.add (W := W) (k := k) (p := p) (t := t) (av := .slice aa lst.length acap) ⟨D, F, v, HS.out.calm (Ha.out.trans hc)⟩ (by omega) ⟨xn, xq⟩)
          have hpl := box (fun W2 => rPlain_any xn W2 (by unfold maxLen; omega))
          have HcT := box (topRow.tops HS.out.out)
          obtain ⟨wq0, hwq0⟩ : ∃ wq0, wo.alloc (.cells #[.string xn, .int .i64 xq] 40) = wq0 := ⟨_, rfl⟩
          rw [hwq0] at hadd Ha Hnew
          have k0 := cell_of Hnew.out 0
          have k1 := cell_of Hnew.out 1
          have klt := heap_lt Hnew.out
          go_upto_region 15 with fail
          clear hwq0 k0 k1 klt
          go_wp2_with fail
          go_loopw [14, 57] (fun bv jv wr => ∃ j : Nat, j ≤ lst.length ∧ jv = .int .i64 j ∧ bv = .bool (hasT (lst.take j) xn) ∧ Calm wq0 wr) (fun _ jv _ => lst.length - (intOf jv).toNat)
          case atStart => exact ⟨0, Nat.zero_le _, rfl, rfl, .refl _⟩
          case round =>
            obtain ⟨j, hj, rfl, rfl, hcq⟩ := hrel
            have HQ := box hcq
            have jx := heap_calm hcq Hnew.out
            have x0 := cell_of jx 0
            have x1 := cell_of jx 1
            have xlt := heap_lt jx
            clear hcq jx
            obtain ⟨wq, hwq⟩ : ∃ wq : World, wq = wr := ⟨_, rfl⟩
            subst hwq
            by_cases hjl : j < lst.length
            · obtain ⟨_, _, he, _, hcells⟩ := HcT.out.calm (Ha.out.trans HQ.out)
              cases he
              obtain ⟨yb, yoff, rfl, hyb, e0, e1⟩ := hcells j hjl
              have hst : hasT (lst.take (j + 1)) xn = (hasT (lst.take j) xn || decide (lst[j].name = xn)) := by
                unfold hasT
                rw [List.take_succ_eq_append_getElem hjl, List.any_append]; simp
              obtain ⟨⟨yn, yq⟩, hy⟩ : ∃ z, lst[j] = z := ⟨_, rfl⟩
              simp only [hy] at e0 e1 hst
              have Hst := box hst
              have HQa := box (HQ.out.alloc (.cells #[.string yn, .int .i64 yq] 40))
              obtain ⟨B, hB⟩ : ∃ B, hasT (lst.take j) xn = B := ⟨_, rfl⟩
              rw [hB] at Hst ⊢
              clear hy hst hB hcells
              cases B
              · by_cases hyx : yn = xn
                · subst hyx
                  go_wp2_with (first | go_quiet (fail) | fail)
                  go_roundw
                  case rel => exact ⟨j + 1, by omega, by go_num, val_bool (by rw [Hst.out]; simp), HQa.out⟩
                  case measure => simp [intOf]; omega
                · have hb1 : (yn.toList == xn.toList) = false := beq_eq_false_iff_ne.2 (fun e => hyx (ba_ext (by rw [← Lib.toList_data, ← Lib.toList_data]; exact e)))
                  go_wp2_with (first | go_quiet (fail) | fail)
                  go_roundw
                  case rel => exact ⟨j + 1, by omega, by go_num, val_bool (by rw [Hst.out]; simp [hyx]), HQa.out⟩
                  case measure => simp [intOf]; omega
              · go_wp2_with (first | go_quiet (fail) | fail)
                go_roundw
                case rel => exact ⟨j + 1, by omega, by go_num, val_bool (by rw [Hst.out]; simp), HQa.out⟩
                case measure => simp [intOf]; omega
            · obtain rfl : j = lst.length := by omega
              rw [List.take_length]
              have hcode := box (show rightC lst ⟨xn, xq⟩ = if plainB xn = false then 11 else if xq < 1 ∨ 3 < xq then 1 else if hasT lst xn = true then 10 else if 6 ≤ lst.length then 6 else 0 from rfl)
              obtain ⟨B, hB⟩ : ∃ B, hasT lst xn = B := ⟨_, rfl⟩
              rw [hB] at hcode ⊢
              obtain ⟨P, hP⟩ : ∃ P, plainB xn = P := ⟨_, rfl⟩
              rw [hP] at hpl hcode
              clear hB hP
              go_upto_block 4 with fail
              go_cut [13, 47] from 47 to 104 (fun ev iv wx => iv = .int .i64 k ∧ ev = .int .i64 (rightC lst ⟨xn, xq⟩) ∧ wx = wq)
              case first =>
                cases P
                · go_wp2_with fail
                  refine (hpl.out _).mono ?_
                  rintro e w5 ⟨rfl, rfl⟩
                  go_wp2_with fail
                  go_meet
                  exact ⟨rfl, val_int (by rw [hcode.out]; rfl), rfl⟩
                · go_wp2_with fail
                  refine (hpl.out _).mono ?_
                  rintro e w5 ⟨rfl, rfl⟩
                  by_cases hq1 : xq < 1
                  · go_wp2_with fail
                    go_meet
                    exact ⟨rfl, val_int (by rw [hcode.out]; simp [hq1]), rfl⟩
                  by_cases hq3 : 3 < xq
                  · go_wp2_with fail
                    go_meet
                    exact ⟨rfl, val_int (by rw [hcode.out]; simp [hq3]), rfl⟩
                  cases B
                  · by_cases h6 : lst.length = 6
                    · have h6i : ((lst.length : Int) == 6) = true := beq_iff_eq.2 (by omega)
                      have H6 := box h6
                      clear h6
                      go_wp2_with fail
                      go_meet
                      exact ⟨rfl, val_int (by rw [hcode.out]; simp [hq1, hq3, H6.out]), rfl⟩
                    · have h6i : ((lst.length : Int) == 6) = false := beq_eq_false_iff_ne.2 (by omega)
                      go_wp2_with fail
                      go_meet
                      exact ⟨rfl, val_int (by rw [hcode.out]; have : ¬ 6 ≤ lst.length := by omega
                                              simp [hq1, hq3, this]), rfl⟩
                  · go_wp2_with fail
                    go_meet
                    exact ⟨rfl, val_int (by rw [hcode.out]; simp [hq1, hq3]), rfl⟩
              case rest =>
                obtain ⟨rfl, rfl, rfl⟩ := hcut
                have hadd2 : Calls Tryz.prog 14 #[ptrTo t, .string xn, .int .i64 xq] wc _ := hadd.out wc HQ.out
                have jq := heap_calm HQ.out Hnew.out
                have HJ := box jq
                clear jq hcode hpl
                obtain ⟨c, hcc⟩ : ∃ c, rightC lst ⟨xn, xq⟩ = c := ⟨_, rfl⟩
                rw [hcc]
                have Hcc := box hcc
                have Hadd2 := box hadd2
                clear hcc hadd2 hadd
                go_wp2_with fail
                refine Hadd2.out.mono ?_
                rw [Hcc.out]
                rintro e w5 ⟨rfl, hcw, hfr, D5, F5, v5, hd5, ht5, hT5, hr5, hF5, hO5, hout5, hap5⟩
                have j5 := hfr _ _ HJ.out
                by_cases hc0 : c = 0
                · subst hc0
                  rw [if_pos rfl] at ht5 hr5
                  have r0 := cell_of j5 0
                  have r1 := cell_of j5 1
                  have jlt := heap_lt j5
                  obtain ⟨av6, w6, happ, hrow6, hk6, hg6⟩ := append_topE W.heap.size (w5.alloc (.cells #[.string xn, .int .i64 xq] 40)) _ lst ⟨xn, xq⟩ w5.heap.size (own_calm hout5 ((Calm.refl w5).alloc _)) (heap_new w5 _) (Nat.le_trans hcw.size ((Calm.refl w5).alloc (.cells #[.string xn, .int .i64 xq] 40)).size) (by omega) 35
                  obtain ⟨D6, F6, v6, m1, m2, m3, m4, m5, m6, m7, m8, m9⟩ := TabS.more hd5 ht5 hT5 hr5 hF5 hO5 HS.out.tW hout5 hap5 ((Calm.refl w5).alloc (.cells #[.string xn, .int .i64 xq] 40)) hrow6 hk6 hg6
                  have HX := box (show TabR p t W (k + 1) (lst ++ [⟨xn, xq⟩]) av6 w6 from ⟨D6, F6, v6, m1, m2, m3, m4, m5, m6, m7, m8, m9⟩)
                  have Happ := box happ
                  clear happ hrow6 hk6 hg6 m1 m2 m3 m4 m5 m6 m7 m8 m9 hd5 ht5 hT5 hr5 hF5 hO5 hout5 hap5 hfr j5
                  go_wp2_with (first | (at_builtin; refine Lib.wpList_append_run _ rfl _ _ _ _ rfl _ _ rfl rfl _ _ Happ.out ?_) | fail)
                  go_roundw
                  case rel => exact ⟨k + 1, lst ++ [⟨xn, xq⟩], by omega, by go_num, HX.out⟩
                  case measure => simp [intOf]; omega
                · have hne : (c == 0) = false := beq_eq_false_iff_ne.2 hc0
                  have hne2 : (c != 0) = true := by simp [bne, hne]
                  rw [if_neg hc0] at ht5 hr5
                  have HX := box (show TabR p t W (k + 1) lst (.slice aa lst.length acap) w5 from ⟨D5, F5, v5, hd5, ht5, hT5, hr5, hF5, hO5, HS.out.tW, hout5, hap5⟩)
                  clear hd5 ht5 hT5 hr5 hF5 hO5 hout5 hap5 hfr j5
                  go_wp2_with fail
                  go_roundw
                  case rel => exact ⟨k + 1, lst, by omega, by go_num, HX.out⟩
                  case measure => simp [intOf]; omega
      · obtain rfl : k = l.length := by omega
        have HcT := box (topRow.tops HS.out.out)
        go_wp2_with fail
        go_loopw [17, 107] (fun mv jv wr => ∃ j : Nat, j ≤ lst.length ∧ jv = .int .i64 j ∧ mv = .int .i64 (manyL ask (lst.take j)) ∧ Calm wo wr) (fun _ jv _ => lst.length - (intOf jv).toNat)
        case atStart => exact ⟨0, Nat.zero_le _, rfl, rfl, .refl _⟩
        case round =>
          obtain ⟨j, hj, rfl, rfl, hcq⟩ := hrel
          have HQ := box hcq
          clear hcq
          obtain ⟨wq, hwq⟩ : ∃ wq : World, wq = wr := ⟨_, rfl⟩
          subst hwq
          by_cases hjl : j < lst.length
          · obtain ⟨_, _, he, _, hcells⟩ := HcT.out.calm HQ.out
            cases he
            obtain ⟨yb, yoff, rfl, hyb, e0, e1⟩ := hcells j hjl
            have hst : manyL ask (lst.take (j + 1)) = if lst[j].name = ask then lst[j].queues else manyL ask (lst.take j) := by
              rw [List.take_succ_eq_append_getElem hjl, manyL_snoc]
            obtain ⟨⟨yn, yq⟩, hy⟩ : ∃ z, lst[j] = z := ⟨_, rfl⟩
            simp only [hy] at e0 e1 hst
            have Hst := box hst
            have HQa := box (HQ.out.alloc (.cells #[.string yn, .int .i64 yq] 40))
            clear hy hst hcells
            by_cases hyx : yn = ask
            · subst hyx
              go_wp2_with (first | go_quiet (fail) | fail)
              go_roundw
              case rel => exact ⟨j + 1, by omega, by go_num, val_int (by rw [Hst.out, if_pos rfl]), HQa.out⟩
              case measure => simp [intOf]; omega
            · have hb1 : (yn.toList == ask.toList) = false := beq_eq_false_iff_ne.2 (fun e => hyx (ba_ext (by rw [← Lib.toList_data, ← Lib.toList_data]; exact e)))
              go_wp2_with (first | go_quiet (fail) | fail)
              go_roundw
              case rel => exact ⟨j + 1, by omega, by go_num, val_int (by rw [Hst.out, if_neg hyx]), HQa.out⟩
              case measure => simp [intOf]; omega
          · obtain rfl : j = lst.length := by omega
            rw [List.take_length]
            have hof := box (fun W => rOf_any ask W (by unfold maxLen; omega))
            have hqt : queuesT lst ask = if ofOk ask = true then 1 else manyL ask lst := by
              rw [ttab.Tabs.many HS.out.tabs ask]; rfl
            have ho := ofOk_iff ask
            obtain ⟨m, hm⟩ : ∃ m, manyL ask lst = m := ⟨_, rfl⟩
            rw [hm] at hqt ⊢
            obtain ⟨G, hG⟩ : ∃ G, ofG ask = G := ⟨_, rfl⟩
            simp only [hG] at hof
            rw [hG] at ho
            rw [ho] at hqt
            have Hqt := box hqt
            clear hm hG ho hqt
            go_wp2_with fail
            refine (hof.out _).mono ?_
            rintro e w5 ⟨rfl, rfl⟩
            go_upto_if 120 with fail
            go_cut [17] from 118 (fun s17 wx => s17 = .int .i64 (queuesT lst ask) ∧ wx = wq)
            case first =>
              cases hE : G.toList.isEmpty
              · have hz : (!decide (G.size = 0)) = true := by rw [isEmpty_iff] at hE; simpa using hE
                go_wp2_with fail
                go_meet
                exact ⟨val_int (by rw [Hqt.out, if_pos hz]), rfl⟩
              · have hz : ¬ (!decide (G.size = 0)) = true := by rw [isEmpty_iff] at hE; simpa using hE
                go_wp2_with fail
                go_meet
                exact ⟨val_int (by rw [Hqt.out, if_neg hz]), rfl⟩
            case rest =>
              obtain ⟨rfl, rfl⟩ := hcut
              have hck := box (show checkT lst ask qq = if queuesT lst ask = 0 then 12 else if qq < 0 ∨ queuesT lst ask ≤ qq then 13 else 0 from rfl)
              have HS2 := box (HS.out.calm HQ.out)
              clear hof Hqt HS HQ HcT
              obtain ⟨q, hq⟩ : ∃ q, queuesT lst ask = q := ⟨_, rfl⟩
              rw [hq] at hck ⊢
              have Hq := box hq
              clear hq

              go_upto_block 7 with fail
              go_cut [20] from 121 (fun s20 wx => s20 = .int .i64 (checkT lst ask qq) ∧ wx = wc)
              case first =>
                by_cases h0 : q = 0
                · subst h0
                  go_wp2_with fail
                  go_meet
                  exact ⟨val_int (by rw [hck.out]; rfl), rfl⟩
                · have hne : (q == 0) = false := beq_eq_false_iff_ne.2 h0
                  by_cases hq0 : qq < 0
                  · go_wp2_with fail
                    go_meet
                    exact ⟨val_int (by rw [hck.out]; simp [h0, hq0]), rfl⟩
                  by_cases hqz : q ≤ qq
                  · go_wp2_with fail
                    go_meet
                    exact ⟨val_int (by rw [hck.out]; simp [h0, hqz]), rfl⟩
                  · go_wp2_with fail
                    go_meet
                    exact ⟨val_int (by rw [hck.out]; simp [h0, hqz, hq0]), rfl⟩
              case rest =>
                obtain ⟨rfl, rfl⟩ := hcut
                clear hck
                have hz1 : (D.all topicsN).1.size ≤ 1000000 := by
                  rw [HS2.out.tabs.all]
                  have := HS2.out.tabs.text
                  split
                  · exact Nat.zero_le _
                  · simp only [sealB_size]; omega
                have hz2 : (loadD D topicsN).1.size ≤ 1000000 := by
                  rw [HS2.out.tabs.load]
                  have := HS2.out.tabs.text
                  split
                  · exact Nat.zero_le _
                  · simp only; omega
                have hopen := Open_tb wc HS2.out.disk hz1 hz2
                rw [HS2.out.tabs.open] at hopen
                have Hopen := box hopen
                clear hz1 hz2 hopen
                go_wp2_with fail
                refine Hopen.out.mono ?_
                rintro e w6 ⟨hc6, hx⟩
                simp only at hx
                obtain ⟨u, rfl, hU, hu⟩ := hx
                have HT := box (HS2.out.tbl.calm hc6)
                have HU := box hU
                have HO := box (HS2.out.owns.calm.trans hc6)
                have HR := box ((topRow.tops HS2.out.out).calm hc6)
                clear hc6 hU hu HS2 Hopen
                have hnb := heap_new w6 (.cells #[ptrTo t, ptrTo u] 36)
                have Hc7 := box ((Calm.refl w6).alloc (.cells #[ptrTo t, ptrTo u] 36))
                have Hnb := box hnb
                clear hnb
                go_wp2_with fail
                go_loopw [143] (fun iv wr => ∃ i : Nat, i ≤ 2 ∧ iv = .int .i64 i ∧ Calm (w6.alloc (.cells #[ptrTo t, ptrTo u] 36)) wr) (fun iv _ => 2 - (intOf iv).toNat)
                case atStart => exact ⟨0, Nat.zero_le _, rfl, .refl _⟩
                case round =>
                  obtain ⟨i, hi, rfl, hcr⟩ := hrel
                  have HC := box hcr
                  obtain ⟨wi, hwi⟩ : ∃ wi : World, wi = wr := ⟨_, rfl⟩
                  subst hwi
                  by_cases hi2 : i < 2
                  · have jb := heap_calm hcr Hnb.out
                    have jlt := heap_lt jb
                    obtain ⟨z, hz, hcell⟩ : ∃ z, Tbl wi z p lst ∧ wi.cell? ⟨w6.heap.size, i, none⟩ = some (ptrTo z) := by
                      rcases (show i = 0 ∨ i = 1 by omega) with rfl | rfl
                      · exact ⟨t, HT.out.calm (Hc7.out.trans hcr), cell_of jb 0⟩
                      · exact ⟨u, HU.out.calm (Hc7.out.trans hcr), cell_of jb 1⟩
                    have Hz := box hz
                    clear hz hcr jb
                    go_wp2_with fail
                    refine (tAll_any _ Hz.out).mono ?_
                    rintro e w8 ⟨v8, rfl, hr8, hc8⟩
                    obtain ⟨a8, cap8, rfl, _⟩ := topRow.tops hr8
                    have HT8 := box (topRow.tops hr8)
                    have HC8 := box (HC.out.trans hc8)
                    have Hz8 := box (Hz.out.calm hc8)
                    clear hr8 hc8 Hz hcell jlt
                    go_wp2_with fail
                    refine (Queues_any ask w8 Hz8.out).mono ?_
                    rw [Hq.out]
                    rintro e w9 ⟨rfl, hc9⟩
                    have Hz9 := box (Hz8.out.calm hc9)
                    have HC9 := box hc9
                    clear hc9 Hz8
                    go_wp2_with fail
                    refine (Check_any ask qq w9 Hz9.out).mono ?_
                    rintro e wa ⟨rfl, hca⟩
                    have HCa := box (HC9.out.trans hca)
                    clear hca HC9 Hz9
                    go_wp2_with fail
                    go_loopw [171] (fun jv wr => ∃ j : Nat, j ≤ lst.length ∧ jv = .int .i64 j ∧ Calm wa wr) (fun jv _ => lst.length - (intOf jv).toNat)
                    case atStart => exact ⟨0, Nat.zero_le _, rfl, .refl _⟩
                    case round =>
                      obtain ⟨j, hj, rfl, hcj⟩ := hrel
                      have HCj := box hcj
                      obtain ⟨wj, hwj⟩ : ∃ wj : World, wj = wr := ⟨_, rfl⟩
                      subst hwj
                      by_cases hjl : j < lst.length
                      · obtain ⟨_, _, he8, _, hg8⟩ := HT8.out.calm (HCa.out.trans hcj)
                        cases he8
                        obtain ⟨b8, off8, rfl, hb8, d0, d1⟩ := hg8 j hjl
                        obtain ⟨_, _, heR, _, hgR⟩ := HR.out.calm (Hc7.out.trans (HC8.out.trans (HCa.out.trans hcj)))
                        cases heR
                        obtain ⟨bR, offR, rfl, hbR, e0, e1⟩ := hgR j hjl
                        obtain ⟨⟨yn, yq⟩, hy⟩ : ∃ z, lst[j] = z := ⟨_, rfl⟩
                        simp only [hy] at d0 d1 e0 e1
                        clear hg8 hgR hy hcj
                        go_wp2_with fail
                        go_quiet (fail)
                        go_wp2_with fail
                        go_roundw
                        case rel => exact ⟨j + 1, by omega, by go_num, HCj.out.drewN _⟩
                        case measure => simp [intOf]; omega
                      · obtain rfl : j = lst.length := by omega
                        go_wp2_with fail
                        go_roundw
                        case rel => exact ⟨i + 1, by omega, by go_num, HC8.out.trans (HCa.out.trans HCj.out)⟩
                        case measure => simp [intOf]; omega
                  · obtain rfl : i = 2 := by omega
                    go_wp2_with fail
                    go_ret
                    exact ⟨rfl, HO.out.trans (Hc7.out.trans HC.out)⟩
end Go.Proofs.YtccbfekajbnehaaGreat.ttab
