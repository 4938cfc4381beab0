/- OffsLast's walk. -/
import Derived.Test.YtafdfmdcnniccaaGreatRows
import Derived.WalkKit
import Derived.ProofKit
import Derived.OpenShut
import Derived.Handy
import Derived.Deep.LoopGhost
import Derived.Lib.Hide
import Derived.Lib.Strings
import Derived.SizedLaws
import Derived.Maps.Own
import Derived.Maps.OwnOps
import Derived.Maps.OwnSet
import Derived.Maps.RangeWalk
import Derived.Deep.QuietTactic
import Derived.BigQuiet
import Derived.Deep.RegionHeld3
import Derived.Lib.ConvBytes
import Derived.Lib.AppendZeros
import Derived.Lib.AppendZerosOnto
import Derived.Lib.LazyBuf
import Derived.Shelf.Abstract
import Derived.LaidEql
import Derived.Lib.SliceRun
import Derived.StillTailTactics
import Derived.Deep.Slices
import Derived.Outline
import Derived.Laws.Cover1
import Derived.Deep.RegionLaw
import Derived.Deep.DeepCutAuto
import Derived.Deep.CutBlock
import Derived.Shelf.SlicesE.Clone
import Derived.Ground.SlgnProg
import Derived.Test.YtafdfmdcnniccaaGreatProg
import Derived.Shelf.Strings.Builder1
import Derived.Shelf.Small.Bits
import Derived.Shelf.Small.Wraps
import Derived.Shelf.Strings.BuilderF
import Derived.Shelf.Strings.BuilderK
import Derived.Shelf.Strconv.Itoa0
import Derived.Shelf.Sort.Plain
import Derived.Shelf.GgClosure.StringsIndexFunc
import Derived.Ground.GgwProg
import Derived.Shelf.GgClosure.StringsIndexFuncTop
import Derived.Shelf.GgClosure.StringsRunes
import Derived.Shelf.Strings.Prefix
import Derived.Shelf.Strings.BuilderCap
import Derived.Ground.Names2Prog
import Derived.Shelf.Slices.SearchI
import Derived.Shelf.Slices.In.SortNone
import Derived.Ground.SlgfProg
import Derived.Shelf.SlicesE.IndexFunc
import Derived.Shelf.SlicesE.DeleteFunc
import Derived.Lib.DecodeN
import Derived.Lib.Overlaps
import Derived.Laws.CopyOwn
import Derived.Laws.MakeOwn
import Derived.Lib.Builder
import Derived.Lib.AppendStr
import Derived.Laws.Rows
import Derived.Shelf.SlIter.Nil
import Derived.Ground.GgzProg
import Derived.Shelf.SortM.Plain
import Derived.Shelf.SortM.SortNone
import Derived.Ground.SlgmProg
import Derived.Laws.BitsLemmas
import Derived.Laws.ResultCell
import Derived.Laws.StructEq
import Derived.Laws.Cover3
import Derived.OwnWalk
import Derived.Test.YtafdfmdcnniccaaGreatPk30
namespace Go.Proofs.YtafdfmdcnniccaaGreat.olast
open Go.ChangeShapes Go.WideShapes Go.ChangeAt Go.RowKit
open Go.Proofs.YtafdfmdcnniccaaGreat.dk Go.Proofs.YtafdfmdcnniccaaGreat.nm Go.Proofs.YtafdfmdcnniccaaGreat.tp Go.Proofs.YtafdfmdcnniccaaGreat.ofs

def OffR : Reads OffS := fun _ cs a => cs = encO a ∧ a.group.size ≤ maxLen ∧ a.topic.size ≤ maxLen ∧ (-9223372036854775808 ≤ a.queue ∧ a.queue ≤ 9223372036854775807) ∧ -9223372036854775808 ≤ a.at_ ∧ a.at_ ≤ 9223372036854775807
theorem OffR.lasts : OffR.Lasts := fun _ _ _ _ h _ => h
set_option maxRecDepth 100000 in
theorem opens_off : Opens Tryz.prog 31 OffR := fun H enc w base sp held fuel cs x h => by
  obtain ⟨xs, n, _, _, hlen, hxl, hg⟩ := DataW.trod_struct Tryz.underlying31 h
  rw [show Tryz.prog.cellsOf 31 = 4 by kernel_rfl] at hlen
  match cs, hlen with
  | [c0, c1, c2, c3], _ =>
    simp only [List.size_toArray, List.length_cons, List.length_nil] at hxl
    have g0 := hg 0 _ rfl
    have g1 := hg 1 _ rfl
    have g2 := hg 2 _ rfl
    have g3 := hg 3 _ rfl
    clear hg
    rw [List.getElem?_eq_getElem (by omega)] at g0 g1 g2 g3
    obtain ⟨a, ha, ha2⟩ := opens_string Tryz.underlying9 _ _ _ _ _ _ _ _ _ g0
    obtain ⟨b, hb, hb2⟩ := opens_string Tryz.underlying9 _ _ _ _ _ _ _ _ _ g1
    obtain ⟨k, hk, hk2, hk3⟩ := opens_int Tryz.underlying3 _ _ _ _ _ _ _ _ _ g2
    obtain ⟨m, hm, hm2, hm3⟩ := opens_int Tryz.underlying3 _ _ _ _ _ _ _ _ _ g3
    have n1 : Tryz.prog.cellsOf 3 = 1 := by kernel_rfl
    have n2 : Tryz.prog.cellsOf 9 = 1 := by kernel_rfl
    refine ⟨⟨a, b, k, m⟩, ?_, ha2, hb2, ⟨hk2, hk3⟩, hm2, hm3⟩
    simp [n1, n2] at ha hb hk hm
    subst ha hb hk hm
    rfl
theorem RowsAt.offs {w : World} {v : Value} {l : List OffS} (h : RowsAt OffR 4 w v l) : ∃ a cap, v = .slice a l.length cap ∧ l.length ≤ maxLen ∧ l.length ≤ cap ∧ ∀ i (hi : i < l.length), ∃ b off, a = some ⟨b, off, none⟩ ∧ b < w.heap.size ∧ OffCells w b (off + i * 4) l[i] ∧ l[i].group.size ≤ maxLen ∧ l[i].topic.size ≤ maxLen := by
  obtain ⟨a, cap, rfl, h2, h3, h4⟩ := h
  refine ⟨a, cap, rfl, by omega, h2, fun i hi => ?_⟩
  obtain ⟨b, off, cs, e, hb, hl, hcell, hr, hm⟩ := h4 i hi
  subst hr
  exact ⟨b, off, e, hb, ⟨hcell 0 (by decide), hcell 1 (by decide), hcell 2 (by decide), hcell 3 (by decide)⟩, hm.1, hm.2.1⟩
theorem get_set {l : List OffS} (h : GoodL l) (x : OffS) (hc : setC l x = 0) {y : OffS} (hs : sameK y x = true) : getO (setL l x) y = x.at_ := by
  unfold getO setL
  rw [if_pos hc, set_find x y h.rising, if_pos hs]
set_option maxRecDepth 100000 in
set_option maxHeartbeats 16000000 in
theorem walk (W : World) (v : Value) (l : List OffS) (r : RowsAt OffR 4 W v l) :
    Calls Tryz.prog 3 #[v] W fun e W' => e = .returned (.bool true) ∧ Calm W W' := by
  obtain ⟨a, cap, rfl, hml, hcap, hel⟩ := olast.RowsAt.offs r
  have Hel := box hel
  clear hel r
  unfold maxLen at hml
  go_enter Tryz.func3, Tryz.ntmps3
  go_wp2_with fail
  refine (ofs.awake_any _).mono ?_
  rintro e w1 ⟨rfl, hca⟩
  have O1 := box ((Owns.refl W).calm' hca)
  clear hca
  by_cases h60 : 60 < l.length
  · go_wp2_with fail
    go_ret
    exact ⟨rfl, O1.out.calm⟩
  have hn : l.length ≤ 60 := by omega
  go_wp2_with fail
  refine (New_ok _ 65536).mono ?_
  rintro e w2 ⟨p, F, rfl, h2, hc2, hF2⟩
  have H2 := box h2
  have O2 := box (O1.out.new hc2 hF2)
  clear h2 hc2 hF2 hml h60
  go_wp2_with fail
  refine (Open_of w2 H2.out (by decide) (by decide)).mono ?_
  rw [new_open]
  rintro e w3 ⟨hc3, o, v0, rfl, hO, ho⟩
  have HS0 := box (show OfS W 0 p o (dk.new 65536) [] w3 F v0 from ⟨H2.out.calm hc3, ⟨hO.at_, row_base (row_zero hO.row) (fun g hg => Nat.le_trans O2.out.calm.size (hO.row.lt g hg).1), hO.few, hO.rising, hO.ok⟩, O2.out.calm' hc3, Nat.le_trans O2.out.calm.size ho⟩)
  clear hc3 hO ho H2 O1 O2
  go_wp2_with fail
  go_loopw [27] (fun iv wr => ∃ (k : Nat) (lst : List OffS) (u : Value), k ≤ l.length ∧ iv = .int .i64 k ∧ Box (OfS W 0 p o (dk.new 65536) lst wr F u)) (fun iv _ => l.length - (intOf iv).toNat)
  case atStart => exact ⟨0, [], v0, Nat.zero_le _, rfl, HS0⟩
  case round =>
    clear HS0
    obtain ⟨k, lst, u, hk, rfl, HS⟩ := hrel
    obtain ⟨wo, hwo⟩ : ∃ wo : World, wo = wr := ⟨_, rfl⟩
    subst hwo
    by_cases hlt : k < l.length
    · obtain ⟨lb, loff, rfl, hlb, ⟨hc0, hc1, hc2, hc3⟩, z0, z1⟩ := Hel.out k hlt
      have d0 := (HS.out.owns.calm.cell (p := ⟨lb, loff + k * 4, none⟩) hlb).trans hc0
      have d1 := (HS.out.owns.calm.cell (p := ⟨lb, loff + k * 4 + 1, none⟩) hlb).trans hc1
      have d2 := (HS.out.owns.calm.cell (p := ⟨lb, loff + k * 4 + 2, none⟩) hlb).trans hc2
      have d3 := (HS.out.owns.calm.cell (p := ⟨lb, loff + k * 4 + 3, none⟩) hlb).trans hc3
      have hlbo := Nat.lt_of_lt_of_le hlb HS.out.owns.calm.size
      have hx0 : ∃ x, l[k] = x := ⟨_, rfl⟩
      obtain ⟨⟨xg, xt, xq, xa⟩, hx⟩ := hx0
      simp only [hx] at d0 d1 d2 d3 z0 z1
      have Ha := box ((Calm.refl wo).alloc (.cells #[.string xg, .string xt, .int .i64 xq, .int .i64 xa] 31))
      have Hnew := box (heap_new wo (.cells #[.string xg, .string xt, .int .i64 xq, .int .i64 xa] 31))
      clear hx hc0 hc1 hc2 hc3
      by_cases hbig : 100 < xg.size
      · go_wp2_with fail
        go_ret
        exact ⟨rfl, Calm.trans HS.out.owns.calm Ha.out⟩
      by_cases hbig2 : 100 < xt.size
      · go_wp2_with fail
        go_ret
        exact ⟨rfl, Calm.trans HS.out.owns.calm Ha.out⟩
      have hset := (HS.out.calm Ha.out).set ⟨xg, xt, xq, xa⟩
      have hown := (HS.out.ofs.row.lt wo.heap.size)
      have Hkeep := box (show wo.heap.size < (wo.alloc (.cells #[.string xg, .string xt, .int .i64 xq, .int .i64 xa] 31)).heap.size ∧ wo.heap.size ≠ o ∧ u.ownBlock ≠ some wo.heap.size from
        ⟨heap_lt Hnew.out, fun e => by have := heap_lt HS.out.ofs.at_; omega, fun e => Nat.lt_irrefl _ (hown e).2⟩)
      have hgs := box (fun hc y hs => get_set (l := lst) HS.out.good ⟨xg, xt, xq, xa⟩ hc (y := y) hs)
      obtain ⟨c, hc⟩ : ∃ c, setC lst ⟨xg, xt, xq, xa⟩ = c := ⟨_, rfl⟩
      rw [hc] at hset hgs
      obtain ⟨lst', hl'⟩ : ∃ m, setL lst ⟨xg, xt, xq, xa⟩ = m := ⟨_, rfl⟩
      rw [hl'] at hset hgs
      have Hset := box (show Calls Tryz.prog _ #[ptrTo o, .agg #[.string xg, .string xt, .int .i64 xq, .int .i64 xa]] _ _ from hset)
      clear hc hl' hset hown
      go_wp2_with fail
      refine Hset.out.mono ?_
      rintro e w5 ⟨rfl, ⟨u5, h5⟩, hkp⟩
      have H5 := box h5
      have Hx5 := box ((hkp wo.heap.size Hkeep.out.1 Hkeep.out.2.1 Hkeep.out.2.2).trans Hnew.out)
      clear h5 hkp Hset
      by_cases hc0 : c = 0
      · subst hc0
        have hgs0 := box (show ∀ y, sameK y ⟨xg, xt, xq, xa⟩ = true → getO lst' y = xa from fun y hs => hgs.out rfl y hs)
        clear hgs
        have hk1 : k + 1 ≤ cap := by omega
        have hk1' : ((k : Int) + 1).toNat = k + 1 := by omega
        have x0 := cell_of Hx5.out 0
        have xlt := heap_lt Hx5.out
        clear d0 d1 d2 d3
        go_wp2_with fail
        clear x0 xlt
        go_loopw [51] (fun jv wr => ∃ j : Nat, j ≤ k + 1 ∧ jv = .int .i64 j ∧ Calm w5 wr) (fun jv _ => k + 1 - (intOf jv).toNat)
        case atStart => exact ⟨0, Nat.zero_le _, rfl, .refl _⟩
        case round =>
          obtain ⟨j, hj, rfl, hcj⟩ := hrel
          have HCj := box hcj
          clear hcj
          obtain ⟨wj, hwj⟩ : ∃ wj : World, wj = wr := ⟨_, rfl⟩
          subst hwj
          by_cases hjk : j < k + 1
          · obtain ⟨lb', loff', he', hlb', ⟨q0, q1, q2, q3⟩, _, _⟩ := Hel.out j (by omega)
            cases he'
            have hcw := H5.out.owns.calm.trans HCj.out
            have e0 := (hcw.cell (p := ⟨lb, loff + j * 4, none⟩) hlb').trans q0
            have e1 := (hcw.cell (p := ⟨lb, loff + j * 4 + 1, none⟩) hlb').trans q1
            have e2 := (hcw.cell (p := ⟨lb, loff + j * 4 + 2, none⟩) hlb').trans q2
            have e3 := (hcw.cell (p := ⟨lb, loff + j * 4 + 3, none⟩) hlb').trans q3
            have hlbj := Nat.lt_of_lt_of_le hlb' hcw.size
            obtain ⟨⟨yg, yt, yq, ya⟩, hy⟩ : ∃ y, l[j] = y := ⟨_, rfl⟩
            simp only [hy] at e0 e1 e2 e3
            have Hb := box ((Calm.refl wj).alloc (.cells #[.string yg, .string yt, .int .i64 yq, .int .i64 ya] 31))
            have Hyn := box (heap_new wj (.cells #[.string yg, .string yt, .int .i64 yq, .int .i64 ya] 31))
            clear hy q0 q1 q2 q3 hcw hlb'
            obtain ⟨wd, hwd⟩ : ∃ wd, wj.alloc (.cells #[.string yg, .string yt, .int .i64 yq, .int .i64 ya] 31) = wd := ⟨_, rfl⟩
            rw [hwd] at Hb Hyn
            have hSS := box (fun W (hc : Calm wd W) => (show Box (W.cell? ⟨wo.heap.size, 0, none⟩ = some (.string xg) ∧ W.cell? ⟨wo.heap.size, 1, none⟩ = some (.string xt) ∧ W.cell? ⟨wo.heap.size, 2, none⟩ = some (.int .i64 xq) ∧ W.cell? ⟨wo.heap.size, 3, none⟩ = some (.int .i64 xa)) ∧ Box (W.cell? ⟨wj.heap.size, 0, none⟩ = some (.string yg) ∧ W.cell? ⟨wj.heap.size, 1, none⟩ = some (.string yt) ∧ W.cell? ⟨wj.heap.size, 2, none⟩ = some (.int .i64 yq)) from
              ⟨box ⟨cell_of (heap_calm (HCj.out.trans (Hb.out.trans hc)) Hx5.out) 0, cell_of (heap_calm (HCj.out.trans (Hb.out.trans hc)) Hx5.out) 1, cell_of (heap_calm (HCj.out.trans (Hb.out.trans hc)) Hx5.out) 2, cell_of (heap_calm (HCj.out.trans (Hb.out.trans hc)) Hx5.out) 3⟩,
                box ⟨cell_of (heap_calm hc Hyn.out) 0, cell_of (heap_calm hc Hyn.out) 1, cell_of (heap_calm hc Hyn.out) 2⟩⟩))
            have hget := box (fun W (hc : Calm wd W) => Get_any yg yt yq W (H5.out.ofs.calm (HCj.out.trans (Hb.out.trans hc))))
            go_upto_region 18 with fail
            clear hwd
            by_cases hg : yg = xg
            · have hgb : (yg.toList == xg.toList) = true := by rw [hg]; exact beq_self_eq_true _
              have Hg := box hg
              clear hg
              by_cases ht : yt = xt
              · have htb : (yt.toList == xt.toList) = true := by rw [ht]; exact beq_self_eq_true _
                have Ht := box ht
                clear ht
                by_cases hq : yq = xq
                · have hqb : (yq == xq) = true := beq_iff_eq.2 hq
                  have hga := hgs0.out ⟨yg, yt, yq, 0⟩ (sameK_iff.2 ⟨Hg.out.symm, Ht.out.symm, hq.symm⟩)
                  rw [hga] at hget
                  clear hga hq
                  refine wp_region_held_drew (S := fun W => Box (W.cell? ⟨wo.heap.size, 0, none⟩ = some (.string xg) ∧ W.cell? ⟨wo.heap.size, 1, none⟩ = some (.string xt) ∧ W.cell? ⟨wo.heap.size, 2, none⟩ = some (.int .i64 xq) ∧ W.cell? ⟨wo.heap.size, 3, none⟩ = some (.int .i64 xa)) ∧ Box (W.cell? ⟨wj.heap.size, 0, none⟩ = some (.string yg) ∧ W.cell? ⟨wj.heap.size, 1, none⟩ = some (.string yt) ∧ W.cell? ⟨wj.heap.size, 2, none⟩ = some (.int .i64 yq))) (by kernel_rfl) (hSS.out _ (Calm.refl wd).drew) (fun hHeld => ?_)
                  ((refine' wpAnyH_take (i := 0) (v := _) rfl (by kernel_rfl) (by kernel_rfl) (by kernel_rfl) (fun _ _ _ h => h) (Or.inl ⟨by rfl, ?hy722⟩) (by assumption) ?rest722; (case hy722 => (intro w hSw; (try dsimp only at hSw); go_simp <;> with_reducible rfl)); simp only [List.getElem_toArray, List.getElem_cons_succ, List.getElem_cons_zero, Act.put, List.setIfInBounds_toArray, List.set_cons_zero, List.set_cons_succ]))
                  ((refine' wpAnyH_take (i := 1) (v := _) rfl (by kernel_rfl) (by kernel_rfl) (by kernel_rfl) (fun _ _ _ h => h) (Or.inl ⟨by rfl, ?hy723⟩) (by assumption) ?rest723; (case hy723 => (intro w hSw; obtain ⟨⟨hSw1⟩, ⟨hSw2⟩⟩ := hSw; go_simp <;> with_reducible rfl)); simp only [List.getElem_toArray, List.getElem_cons_succ, List.getElem_cons_zero, Act.put, List.setIfInBounds_toArray, List.set_cons_zero, List.set_cons_succ]))
                  ((refine' wpAnyH_take (i := 2) (v := _) rfl (by kernel_rfl) (by kernel_rfl) (by kernel_rfl) (fun _ _ _ h => h) (Or.inl ⟨by rfl, ?hy724⟩) (by assumption) ?rest724; (case hy724 => (intro w hSw; (try dsimp only at hSw); go_simp <;> with_reducible rfl)); simp only [List.getElem_toArray, List.getElem_cons_succ, List.getElem_cons_zero, Act.put, List.setIfInBounds_toArray, List.set_cons_zero, List.set_cons_succ]))
                  ((refine' wpAnyH_take (i := 3) (v := _) rfl (by kernel_rfl) (by kernel_rfl) (by kernel_rfl) (fun _ _ _ h => h) (Or.inl ⟨by rfl, ?hy725⟩) (by assumption) ?rest725; (case hy725 => (intro w hSw; obtain ⟨⟨hSw1⟩, ⟨hSw2⟩⟩ := hSw; go_simp <;> with_reducible rfl)); simp only [List.getElem_toArray, List.getElem_cons_succ, List.getElem_cons_zero, Act.put, List.setIfInBounds_toArray, List.set_cons_zero, List.set_cons_succ]))
                  ((refine' wpAnyH_take (i := 4) (v := _) rfl (by kernel_rfl) (by kernel_rfl) (by kernel_rfl) (fun _ _ _ h => h) (Or.inl ⟨by rfl, ?hy726⟩) (by assumption) ?rest726; (case hy726 => (intro w hSw; (try dsimp only at hSw); go_simp <;> with_reducible rfl)); simp only [List.getElem_toArray, List.getElem_cons_succ, List.getElem_cons_zero, Act.put, List.setIfInBounds_toArray, List.set_cons_zero, List.set_cons_succ]); (refine' wpAnyH_take (i := 5) (v := _) rfl (by kernel_rfl) (by kernel_rfl) (by kernel_rfl) (fun _ _ _ h => h) (Or.inl ⟨by rfl, ?hy727⟩) (by assumption) ?rest727; (case hy727 => (intro w hSw; (try dsimp only at hSw); go_simp <;> with_reducible rfl)); simp only [List.getElem_toArray, List.getElem_cons_succ, List.getElem_cons_zero, Act.put, List.setIfInBounds_toArray, List.set_cons_zero, List.set_cons_succ]); (refine' wpAnyH_take (i := 6) (v := _) rfl (by kernel_rfl) (by kernel_rfl) (by kernel_rfl) (fun _ _ _ h => h) (Or.inl ⟨by rfl, ?hy728⟩) (by assumption) ?rest728; (case hy728 => (intro w hSw; (try dsimp only at hSw); go_simp <;> with_reducible rfl)); simp only [List.getElem_toArray, List.getElem_cons_succ, List.getElem_cons_zero, Act.put, List.setIfInBounds_toArray, List.set_cons_zero, List.set_cons_succ]))
                  ((refine' wpAnyH_take (i := 7) (v := _) rfl (by kernel_rfl) (by kernel_rfl) (by kernel_rfl) (fun _ _ _ h => h) (Or.inl ⟨by rfl, ?hy729⟩) (by assumption) ?rest729; (case hy729 => (intro w hSw; obtain ⟨⟨hSw1⟩, ⟨hSw2⟩⟩ := hSw; go_simp <;> with_reducible rfl)); simp only [List.getElem_toArray, List.getElem_cons_succ, List.getElem_cons_zero, Act.put, List.setIfInBounds_toArray, List.set_cons_zero, List.set_cons_succ]))
                  ((refine' wpAnyH_take (i := 8) (v := _) rfl (by kernel_rfl) (by kernel_rfl) (by kernel_rfl) (fun _ _ _ h => h) (Or.inl ⟨by rfl, ?hy730⟩) (by assumption) ?rest730; (case hy730 => (intro w hSw; (try dsimp only at hSw); go_simp <;> with_reducible rfl)); simp only [List.getElem_toArray, List.getElem_cons_succ, List.getElem_cons_zero, Act.put, List.setIfInBounds_toArray, List.set_cons_zero, List.set_cons_succ]))
                  ((refine' wpAnyH_take (i := 9) (v := _) rfl (by kernel_rfl) (by kernel_rfl) (by kernel_rfl) (fun _ _ _ h => h) (Or.inl ⟨by rfl, ?hy731⟩) (by assumption) ?rest731; (case hy731 => (intro w hSw; obtain ⟨⟨hSw1⟩, ⟨hSw2⟩⟩ := hSw; go_simp <;> with_reducible rfl)); simp only [List.getElem_toArray, List.getElem_cons_succ, List.getElem_cons_zero, Act.put, List.setIfInBounds_toArray, List.set_cons_zero, List.set_cons_succ]))
                  ((refine' wpAnyH_take (i := 10) (v := _) rfl (by kernel_rfl) (by kernel_rfl) (by kernel_rfl) (fun _ _ _ h => h) (Or.inl ⟨by rfl, ?hy732⟩) (by assumption) ?rest732; (case hy732 => (intro w hSw; (try dsimp only at hSw); go_simp <;> with_reducible rfl)); simp only [List.getElem_toArray, List.getElem_cons_succ, List.getElem_cons_zero, Act.put, List.setIfInBounds_toArray, List.set_cons_zero, List.set_cons_succ]); (refine' wpAnyH_take (i := 11) (v := _) rfl (by kernel_rfl) (by kernel_rfl) (by kernel_rfl) (fun _ _ _ h => h) (Or.inl ⟨by rfl, ?hy733⟩) (by assumption) ?rest733; (case hy733 => (intro w hSw; (try dsimp only at hSw); go_simp <;> with_reducible rfl)); simp only [List.getElem_toArray, List.getElem_cons_succ, List.getElem_cons_zero, Act.put, List.setIfInBounds_toArray, List.set_cons_zero, List.set_cons_succ]); (refine' wpAnyH_take (i := 12) (v := _) rfl (by kernel_rfl) (by kernel_rfl) (by kernel_rfl) (fun _ _ _ h => h) (Or.inl ⟨by rfl, ?hy734⟩) (by assumption) ?rest734; (case hy734 => (intro w hSw; (try dsimp only at hSw); go_simp <;> with_reducible rfl)); simp only [List.getElem_toArray, List.getElem_cons_succ, List.getElem_cons_zero, Act.put, List.setIfInBounds_toArray, List.set_cons_zero, List.set_cons_succ]); (refine' wpAnyH_take (i := 13) (v := _) rfl (by kernel_rfl) (by kernel_rfl) (by kernel_rfl) (fun _ _ _ h => h) (Or.inl ⟨by rfl, ?hy735⟩) (by assumption) ?rest735; (case hy735 => (intro w hSw; (try dsimp only at hSw); go_simp <;> with_reducible rfl)); simp only [List.getElem_toArray, List.getElem_cons_succ, List.getElem_cons_zero, Act.put, List.setIfInBounds_toArray, List.set_cons_zero, List.set_cons_succ]))
                  ((refine' wpAnyH_take (i := 14) (v := _) rfl (by kernel_rfl) (by kernel_rfl) (by kernel_rfl) (fun _ _ _ h => h) (Or.inl ⟨by rfl, ?hy736⟩) (by assumption) ?rest736; (case hy736 => (intro w hSw; obtain ⟨⟨hSw1⟩, ⟨hSw2⟩⟩ := hSw; go_simp <;> with_reducible rfl)); simp only [List.getElem_toArray, List.getElem_cons_succ, List.getElem_cons_zero, Act.put, List.setIfInBounds_toArray, List.set_cons_zero, List.set_cons_succ]))
                  ((refine' wpAnyH_take (i := 15) (v := _) rfl (by kernel_rfl) (by kernel_rfl) (by kernel_rfl) (fun _ _ _ h => h) (Or.inl ⟨by rfl, ?hy737⟩) (by assumption) ?rest737; (case hy737 => (intro w hSw; (try dsimp only at hSw); go_simp <;> with_reducible rfl)); simp only [List.getElem_toArray, List.getElem_cons_succ, List.getElem_cons_zero, Act.put, List.setIfInBounds_toArray, List.set_cons_zero, List.set_cons_succ]))
                  ((refine' wpAnyH_take (i := 16) (v := _) rfl (by kernel_rfl) (by kernel_rfl) (by kernel_rfl) (fun _ _ _ h => h) (Or.inl ⟨by rfl, ?hy738⟩) (by assumption) ?rest738; (case hy738 => (intro w hSw; obtain ⟨⟨hSw1⟩, ⟨hSw2⟩⟩ := hSw; go_simp <;> with_reducible rfl)); simp only [List.getElem_toArray, List.getElem_cons_succ, List.getElem_cons_zero, Act.put, List.setIfInBounds_toArray, List.set_cons_zero, List.set_cons_succ]))
                  ((refine' wpAnyH_take (i := 17) (v := _) rfl (by kernel_rfl) (by kernel_rfl) (by kernel_rfl) (fun _ _ _ h => h) (Or.inl ⟨by rfl, ?hy739⟩) (by assumption) ?rest739; (case hy739 => (intro w hSw; (try dsimp only at hSw); go_simp <;> with_reducible rfl)); simp only [List.getElem_toArray, List.getElem_cons_succ, List.getElem_cons_zero, Act.put, List.setIfInBounds_toArray, List.set_cons_zero, List.set_cons_succ]); (refine' wpAnyH_take (i := 18) (v := _) rfl (by kernel_rfl) (by kernel_rfl) (by kernel_rfl) (fun _ _ _ h => h) (Or.inl ⟨by rfl, ?hy740⟩) (by assumption) ?rest740; (case hy740 => (intro w hSw; (try dsimp only at hSw); go_simp <;> with_reducible rfl)); simp only [List.getElem_toArray, List.getElem_cons_succ, List.getElem_cons_zero, Act.put, List.setIfInBounds_toArray, List.set_cons_zero, List.set_cons_succ]); (refine' wpAnyH_take (i := 19) (v := _) rfl (by kernel_rfl) (by kernel_rfl) (by kernel_rfl) (fun _ _ _ h => h) (Or.inl ⟨by rfl, ?hy741⟩) (by assumption) ?rest741; (case hy741 => (intro w hSw; (try dsimp only at hSw); go_simp <;> with_reducible rfl)); simp only [List.getElem_toArray, List.getElem_cons_succ, List.getElem_cons_zero, Act.put, List.setIfInBounds_toArray, List.set_cons_zero, List.set_cons_succ]); (refine' wpAnyH_take (i := 20) (v := _) rfl (by kernel_rfl) (by kernel_rfl) (by kernel_rfl) (fun _ _ _ h => h) (Or.inl ⟨by rfl, ?hy742⟩) (by assumption) ?rest742; (case hy742 => (intro w hSw; (try dsimp only at hSw); go_simp <;> with_reducible rfl)); simp only [List.getElem_toArray, List.getElem_cons_succ, List.getElem_cons_zero, Act.put, List.setIfInBounds_toArray, List.set_cons_zero, List.set_cons_succ]); (refine' wpAnyH_take (i := 21) (v := _) rfl (by kernel_rfl) (by kernel_rfl) (by kernel_rfl) (fun _ _ _ h => h) (Or.inl ⟨by rfl, ?hy743⟩) (by assumption) ?rest743; (case hy743 => (intro w hSw; (try dsimp only at hSw); go_simp <;> with_reducible rfl)); simp only [List.getElem_toArray, List.getElem_cons_succ, List.getElem_cons_zero, Act.put, List.setIfInBounds_toArray, List.set_cons_zero, List.set_cons_succ]))
                  ((refine' wpAnyH_take (i := 22) (v := _) rfl (by kernel_rfl) (by kernel_rfl) (by kernel_rfl) (fun _ _ _ h => h) (Or.inl ⟨by rfl, ?hy744⟩) (by assumption) ?rest744; (case hy744 => (intro w hSw; obtain ⟨⟨hSw1⟩, ⟨hSw2⟩⟩ := hSw; go_simp <;> with_reducible rfl)); simp only [List.getElem_toArray, List.getElem_cons_succ, List.getElem_cons_zero, Act.put, List.setIfInBounds_toArray, List.set_cons_zero, List.set_cons_succ]))
                  ((refine' wpAnyH_take (i := 23) (v := _) rfl (by kernel_rfl) (by kernel_rfl) (by kernel_rfl) (fun _ _ _ h => h) (Or.inl ⟨by rfl, ?hy745⟩) (by assumption) ?rest745; (case hy745 => (intro w hSw; (try dsimp only at hSw); go_simp <;> with_reducible rfl)); simp only [List.getElem_toArray, List.getElem_cons_succ, List.getElem_cons_zero, Act.put, List.setIfInBounds_toArray, List.set_cons_zero, List.set_cons_succ]))
                  ((refine' wpAnyH_take (i := 24) (v := _) rfl (by kernel_rfl) (by kernel_rfl) (by kernel_rfl) (fun _ _ _ h => h) (Or.inl ⟨by rfl, ?hy746⟩) (by assumption) ?rest746; (case hy746 => (intro w hSw; obtain ⟨⟨hSw1⟩, ⟨hSw2⟩⟩ := hSw; go_simp <;> with_reducible rfl)); simp only [List.getElem_toArray, List.getElem_cons_succ, List.getElem_cons_zero, Act.put, List.setIfInBounds_toArray, List.set_cons_zero, List.set_cons_succ]))
                  ((refine' wpAnyH_take (i := 25) (v := _) rfl (by kernel_rfl) (by kernel_rfl) (by kernel_rfl) (fun _ _ _ h => h) (Or.inl ⟨by rfl, ?hy747⟩) (by assumption) ?rest747; (case hy747 => (intro w hSw; (try dsimp only at hSw); go_simp <;> with_reducible rfl)); simp only [List.getElem_toArray, List.getElem_cons_succ, List.getElem_cons_zero, Act.put, List.setIfInBounds_toArray, List.set_cons_zero, List.set_cons_succ]))
                  ((refine' wpAnyH_take (i := 26) (v := _) rfl (by kernel_rfl) (by kernel_rfl) (by kernel_rfl) (fun _ _ _ h => h) (Or.inl ⟨by rfl, ?hy748⟩) (by assumption) ?rest748; (case hy748 => (intro w hSw; obtain ⟨⟨hSw1⟩, ⟨hSw2⟩⟩ := hSw; go_simp <;> with_reducible rfl)); simp only [List.getElem_toArray, List.getElem_cons_succ, List.getElem_cons_zero, Act.put, List.setIfInBounds_toArray, List.set_cons_zero, List.set_cons_succ]))
                  ((refine' wpAnyH_take (i := 28) (v := _) rfl (by kernel_rfl) (by kernel_rfl) (by kernel_rfl) (fun _ _ _ h => h) (Or.inl ⟨by rfl, ?hy749⟩) (by assumption) ?rest749; (case hy749 => (intro w hSw; (try dsimp only at hSw); go_simp <;> with_reducible rfl)); simp only [List.getElem_toArray, List.getElem_cons_succ, List.getElem_cons_zero, Act.put, List.setIfInBounds_toArray, List.set_cons_zero, List.set_cons_succ]))
                  ((refine' wpAnyH_take (i := 29) (v := _) rfl (by kernel_rfl) (by kernel_rfl) (by kernel_rfl) (fun _ _ _ h => h) (Or.inl ⟨by rfl, ?hy750⟩) (by assumption) ?rest750; (case hy750 => (intro w hSw; obtain ⟨⟨hSw1⟩, ⟨hSw2⟩⟩ := hSw; go_simp <;> with_reducible rfl)); simp only [List.getElem_toArray, List.getElem_cons_succ, List.getElem_cons_zero, Act.put, List.setIfInBounds_toArray, List.set_cons_zero, List.set_cons_succ]))
                  refine wpAnyH_ready (rs := [27]) (by kernel_rfl) (by simp) ?_
                  refine AllReadyH.cons rfl (fun K hK => ?_) AllReadyH.nil
                  rw [if_pos (by rfl)]
                  go_simp
                  refine (hget.out _ (Calm.refl wd).drew).mono ?_
                  rintro e w6 ⟨rfl, hc6⟩
                  have HC6 := box (show Calm wd w6 from Calm.trans ((Calm.refl wd).drew) hc6)
                  clear hc6
                  go_wp2_with fail
                  refine hK.out _ _ (hSS.out _ HC6.out) (fun hHeld => ?_)
                  clear hK K
                  try simp only [List.getElem_toArray, List.getElem_cons_succ, List.getElem_cons_zero, Act.put, List.setIfInBounds_toArray, List.set_cons_zero, List.set_cons_succ]
                  ((refine' wpAnyH_take (i := 30) (v := _) rfl (by kernel_rfl) (by kernel_rfl) (by kernel_rfl) (fun _ _ _ h => h) (Or.inl ⟨by rfl, ?hy751⟩) (by assumption) ?rest751; (case hy751 => (intro w hSw; (try dsimp only at hSw); go_simp <;> with_reducible rfl)); simp only [List.getElem_toArray, List.getElem_cons_succ, List.getElem_cons_zero, Act.put, List.setIfInBounds_toArray, List.set_cons_zero, List.set_cons_succ]); (refine' wpAnyH_take (i := 31) (v := _) rfl (by kernel_rfl) (by kernel_rfl) (by kernel_rfl) (fun _ _ _ h => h) (Or.inl ⟨by rfl, ?hy752⟩) (by assumption) ?rest752; (case hy752 => (intro w hSw; (try dsimp only at hSw); go_simp <;> with_reducible rfl)); simp only [List.getElem_toArray, List.getElem_cons_succ, List.getElem_cons_zero, Act.put, List.setIfInBounds_toArray, List.set_cons_zero, List.set_cons_succ]))
                  refine wpAnyH_done (by kernel_rfl) ?_ _
                  go_wp2_with fail
                  go_roundw
                  case rel => exact ⟨j + 1, by omega, by go_num, HCj.out.trans (Hb.out.trans HC6.out)⟩
                  case measure => simp [intOf]; omega
                · have hqb : (yq == xq) = false := beq_eq_false_iff_ne.2 hq
                  refine wp_region_held_drew (S := fun W => Box (W.cell? ⟨wo.heap.size, 0, none⟩ = some (.string xg) ∧ W.cell? ⟨wo.heap.size, 1, none⟩ = some (.string xt) ∧ W.cell? ⟨wo.heap.size, 2, none⟩ = some (.int .i64 xq) ∧ W.cell? ⟨wo.heap.size, 3, none⟩ = some (.int .i64 xa)) ∧ Box (W.cell? ⟨wj.heap.size, 0, none⟩ = some (.string yg) ∧ W.cell? ⟨wj.heap.size, 1, none⟩ = some (.string yt) ∧ W.cell? ⟨wj.heap.size, 2, none⟩ = some (.int .i64 yq))) (by kernel_rfl) (hSS.out _ (Calm.refl wd).drew) (fun hHeld => ?_)
                  ((refine' wpAnyH_take (i := 0) (v := _) rfl (by kernel_rfl) (by kernel_rfl) (by kernel_rfl) (fun _ _ _ h => h) (Or.inl ⟨by rfl, ?hy753⟩) (by assumption) ?rest753; (case hy753 => (intro w hSw; (try dsimp only at hSw); go_simp <;> with_reducible rfl)); simp only [List.getElem_toArray, List.getElem_cons_succ, List.getElem_cons_zero, Act.put, List.setIfInBounds_toArray, List.set_cons_zero, List.set_cons_succ]))
                  ((refine' wpAnyH_take (i := 1) (v := _) rfl (by kernel_rfl) (by kernel_rfl) (by kernel_rfl) (fun _ _ _ h => h) (Or.inl ⟨by rfl, ?hy754⟩) (by assumption) ?rest754; (case hy754 => (intro w hSw; obtain ⟨⟨hSw1⟩, ⟨hSw2⟩⟩ := hSw; go_simp <;> with_reducible rfl)); simp only [List.getElem_toArray, List.getElem_cons_succ, List.getElem_cons_zero, Act.put, List.setIfInBounds_toArray, List.set_cons_zero, List.set_cons_succ]))
                  ((refine' wpAnyH_take (i := 2) (v := _) rfl (by kernel_rfl) (by kernel_rfl) (by kernel_rfl) (fun _ _ _ h => h) (Or.inl ⟨by rfl, ?hy755⟩) (by assumption) ?rest755; (case hy755 => (intro w hSw; (try dsimp only at hSw); go_simp <;> with_reducible rfl)); simp only [List.getElem_toArray, List.getElem_cons_succ, List.getElem_cons_zero, Act.put, List.setIfInBounds_toArray, List.set_cons_zero, List.set_cons_succ]))
                  ((refine' wpAnyH_take (i := 3) (v := _) rfl (by kernel_rfl) (by kernel_rfl) (by kernel_rfl) (fun _ _ _ h => h) (Or.inl ⟨by rfl, ?hy756⟩) (by assumption) ?rest756; (case hy756 => (intro w hSw; obtain ⟨⟨hSw1⟩, ⟨hSw2⟩⟩ := hSw; go_simp <;> with_reducible rfl)); simp only [List.getElem_toArray, List.getElem_cons_succ, List.getElem_cons_zero, Act.put, List.setIfInBounds_toArray, List.set_cons_zero, List.set_cons_succ]))
                  ((refine' wpAnyH_take (i := 4) (v := _) rfl (by kernel_rfl) (by kernel_rfl) (by kernel_rfl) (fun _ _ _ h => h) (Or.inl ⟨by rfl, ?hy757⟩) (by assumption) ?rest757; (case hy757 => (intro w hSw; (try dsimp only at hSw); go_simp <;> with_reducible rfl)); simp only [List.getElem_toArray, List.getElem_cons_succ, List.getElem_cons_zero, Act.put, List.setIfInBounds_toArray, List.set_cons_zero, List.set_cons_succ]); (refine' wpAnyH_take (i := 5) (v := _) rfl (by kernel_rfl) (by kernel_rfl) (by kernel_rfl) (fun _ _ _ h => h) (Or.inl ⟨by rfl, ?hy758⟩) (by assumption) ?rest758; (case hy758 => (intro w hSw; (try dsimp only at hSw); go_simp <;> with_reducible rfl)); simp only [List.getElem_toArray, List.getElem_cons_succ, List.getElem_cons_zero, Act.put, List.setIfInBounds_toArray, List.set_cons_zero, List.set_cons_succ]); (refine' wpAnyH_take (i := 6) (v := _) rfl (by kernel_rfl) (by kernel_rfl) (by kernel_rfl) (fun _ _ _ h => h) (Or.inl ⟨by rfl, ?hy759⟩) (by assumption) ?rest759; (case hy759 => (intro w hSw; (try dsimp only at hSw); go_simp <;> with_reducible rfl)); simp only [List.getElem_toArray, List.getElem_cons_succ, List.getElem_cons_zero, Act.put, List.setIfInBounds_toArray, List.set_cons_zero, List.set_cons_succ]))
                  ((refine' wpAnyH_take (i := 7) (v := _) rfl (by kernel_rfl) (by kernel_rfl) (by kernel_rfl) (fun _ _ _ h => h) (Or.inl ⟨by rfl, ?hy760⟩) (by assumption) ?rest760; (case hy760 => (intro w hSw; obtain ⟨⟨hSw1⟩, ⟨hSw2⟩⟩ := hSw; go_simp <;> with_reducible rfl)); simp only [List.getElem_toArray, List.getElem_cons_succ, List.getElem_cons_zero, Act.put, List.setIfInBounds_toArray, List.set_cons_zero, List.set_cons_succ]))
                  ((refine' wpAnyH_take (i := 8) (v := _) rfl (by kernel_rfl) (by kernel_rfl) (by kernel_rfl) (fun _ _ _ h => h) (Or.inl ⟨by rfl, ?hy761⟩) (by assumption) ?rest761; (case hy761 => (intro w hSw; (try dsimp only at hSw); go_simp <;> with_reducible rfl)); simp only [List.getElem_toArray, List.getElem_cons_succ, List.getElem_cons_zero, Act.put, List.setIfInBounds_toArray, List.set_cons_zero, List.set_cons_succ]))
                  ((refine' wpAnyH_take (i := 9) (v := _) rfl (by kernel_rfl) (by kernel_rfl) (by kernel_rfl) (fun _ _ _ h => h) (Or.inl ⟨by rfl, ?hy762⟩) (by assumption) ?rest762; (case hy762 => (intro w hSw; obtain ⟨⟨hSw1⟩, ⟨hSw2⟩⟩ := hSw; go_simp <;> with_reducible rfl)); simp only [List.getElem_toArray, List.getElem_cons_succ, List.getElem_cons_zero, Act.put, List.setIfInBounds_toArray, List.set_cons_zero, List.set_cons_succ]))
                  ((refine' wpAnyH_take (i := 10) (v := _) rfl (by kernel_rfl) (by kernel_rfl) (by kernel_rfl) (fun _ _ _ h => h) (Or.inl ⟨by rfl, ?hy763⟩) (by assumption) ?rest763; (case hy763 => (intro w hSw; (try dsimp only at hSw); go_simp <;> with_reducible rfl)); simp only [List.getElem_toArray, List.getElem_cons_succ, List.getElem_cons_zero, Act.put, List.setIfInBounds_toArray, List.set_cons_zero, List.set_cons_succ]); (refine' wpAnyH_take (i := 11) (v := _) rfl (by kernel_rfl) (by kernel_rfl) (by kernel_rfl) (fun _ _ _ h => h) (Or.inl ⟨by rfl, ?hy764⟩) (by assumption) ?rest764; (case hy764 => (intro w hSw; (try dsimp only at hSw); go_simp <;> with_reducible rfl)); simp only [List.getElem_toArray, List.getElem_cons_succ, List.getElem_cons_zero, Act.put, List.setIfInBounds_toArray, List.set_cons_zero, List.set_cons_succ]); (refine' wpAnyH_take (i := 12) (v := _) rfl (by kernel_rfl) (by kernel_rfl) (by kernel_rfl) (fun _ _ _ h => h) (Or.inl ⟨by rfl, ?hy765⟩) (by assumption) ?rest765; (case hy765 => (intro w hSw; (try dsimp only at hSw); go_simp <;> with_reducible rfl)); simp only [List.getElem_toArray, List.getElem_cons_succ, List.getElem_cons_zero, Act.put, List.setIfInBounds_toArray, List.set_cons_zero, List.set_cons_succ]); (refine' wpAnyH_take (i := 13) (v := _) rfl (by kernel_rfl) (by kernel_rfl) (by kernel_rfl) (fun _ _ _ h => h) (Or.inl ⟨by rfl, ?hy766⟩) (by assumption) ?rest766; (case hy766 => (intro w hSw; (try dsimp only at hSw); go_simp <;> with_reducible rfl)); simp only [List.getElem_toArray, List.getElem_cons_succ, List.getElem_cons_zero, Act.put, List.setIfInBounds_toArray, List.set_cons_zero, List.set_cons_succ]))
                  ((refine' wpAnyH_take (i := 14) (v := _) rfl (by kernel_rfl) (by kernel_rfl) (by kernel_rfl) (fun _ _ _ h => h) (Or.inl ⟨by rfl, ?hy767⟩) (by assumption) ?rest767; (case hy767 => (intro w hSw; obtain ⟨⟨hSw1⟩, ⟨hSw2⟩⟩ := hSw; go_simp <;> with_reducible rfl)); simp only [List.getElem_toArray, List.getElem_cons_succ, List.getElem_cons_zero, Act.put, List.setIfInBounds_toArray, List.set_cons_zero, List.set_cons_succ]))
                  ((refine' wpAnyH_take (i := 15) (v := _) rfl (by kernel_rfl) (by kernel_rfl) (by kernel_rfl) (fun _ _ _ h => h) (Or.inl ⟨by rfl, ?hy768⟩) (by assumption) ?rest768; (case hy768 => (intro w hSw; (try dsimp only at hSw); go_simp <;> with_reducible rfl)); simp only [List.getElem_toArray, List.getElem_cons_succ, List.getElem_cons_zero, Act.put, List.setIfInBounds_toArray, List.set_cons_zero, List.set_cons_succ]))
                  ((refine' wpAnyH_take (i := 16) (v := _) rfl (by kernel_rfl) (by kernel_rfl) (by kernel_rfl) (fun _ _ _ h => h) (Or.inl ⟨by rfl, ?hy769⟩) (by assumption) ?rest769; (case hy769 => (intro w hSw; obtain ⟨⟨hSw1⟩, ⟨hSw2⟩⟩ := hSw; go_simp <;> with_reducible rfl)); simp only [List.getElem_toArray, List.getElem_cons_succ, List.getElem_cons_zero, Act.put, List.setIfInBounds_toArray, List.set_cons_zero, List.set_cons_succ]))
                  ((refine' wpAnyH_take (i := 17) (v := _) rfl (by kernel_rfl) (by kernel_rfl) (by kernel_rfl) (fun _ _ _ h => h) (Or.inl ⟨by rfl, ?hy770⟩) (by assumption) ?rest770; (case hy770 => (intro w hSw; (try dsimp only at hSw); go_simp <;> with_reducible rfl)); simp only [List.getElem_toArray, List.getElem_cons_succ, List.getElem_cons_zero, Act.put, List.setIfInBounds_toArray, List.set_cons_zero, List.set_cons_succ]); (refine' wpAnyH_take (i := 18) (v := _) rfl (by kernel_rfl) (by kernel_rfl) (by kernel_rfl) (fun _ _ _ h => h) (Or.inl ⟨by rfl, ?hy771⟩) (by assumption) ?rest771; (case hy771 => (intro w hSw; (try dsimp only at hSw); go_simp <;> with_reducible rfl)); simp only [List.getElem_toArray, List.getElem_cons_succ, List.getElem_cons_zero, Act.put, List.setIfInBounds_toArray, List.set_cons_zero, List.set_cons_succ]); (refine' wpAnyH_take (i := 19) (v := _) rfl (by kernel_rfl) (by kernel_rfl) (by kernel_rfl) (fun _ _ _ h => h) (Or.inl ⟨by rfl, ?hy772⟩) (by assumption) ?rest772; (case hy772 => (intro w hSw; (try dsimp only at hSw); go_simp <;> with_reducible rfl)); simp only [List.getElem_toArray, List.getElem_cons_succ, List.getElem_cons_zero, Act.put, List.setIfInBounds_toArray, List.set_cons_zero, List.set_cons_succ]))
                  ((refine' wpAnyH_take (i := 20) (v := _) rfl (by kernel_rfl) (by kernel_rfl) (by kernel_rfl) (fun _ _ _ h => h) (Or.inr ⟨by rfl, rfl⟩) (by assumption) ?rest773; simp only [List.getElem_toArray, List.getElem_cons_succ, List.getElem_cons_zero, Act.put, List.setIfInBounds_toArray, List.set_cons_zero, List.set_cons_succ]); (refine' wpAnyH_take (i := 21) (v := _) rfl (by kernel_rfl) (by kernel_rfl) (by kernel_rfl) (fun _ _ _ h => h) (Or.inr ⟨by rfl, rfl⟩) (by assumption) ?rest774; simp only [List.getElem_toArray, List.getElem_cons_succ, List.getElem_cons_zero, Act.put, List.setIfInBounds_toArray, List.set_cons_zero, List.set_cons_succ]); (refine' wpAnyH_take (i := 22) (v := _) rfl (by kernel_rfl) (by kernel_rfl) (by kernel_rfl) (fun _ _ _ h => h) (Or.inr ⟨by rfl, rfl⟩) (by assumption) ?rest775; simp only [List.getElem_toArray, List.getElem_cons_succ, List.getElem_cons_zero, Act.put, List.setIfInBounds_toArray, List.set_cons_zero, List.set_cons_succ]); (refine' wpAnyH_take (i := 23) (v := _) rfl (by kernel_rfl) (by kernel_rfl) (by kernel_rfl) (fun _ _ _ h => h) (Or.inr ⟨by rfl, rfl⟩) (by assumption) ?rest776; simp only [List.getElem_toArray, List.getElem_cons_succ, List.getElem_cons_zero, Act.put, List.setIfInBounds_toArray, List.set_cons_zero, List.set_cons_succ]); (refine' wpAnyH_take (i := 24) (v := _) rfl (by kernel_rfl) (by kernel_rfl) (by kernel_rfl) (fun _ _ _ h => h) (Or.inr ⟨by rfl, rfl⟩) (by assumption) ?rest777; simp only [List.getElem_toArray, List.getElem_cons_succ, List.getElem_cons_zero, Act.put, List.setIfInBounds_toArray, List.set_cons_zero, List.set_cons_succ]); (refine' wpAnyH_take (i := 25) (v := _) rfl (by kernel_rfl) (by kernel_rfl) (by kernel_rfl) (fun _ _ _ h => h) (Or.inr ⟨by rfl, rfl⟩) (by assumption) ?rest778; simp only [List.getElem_toArray, List.getElem_cons_succ, List.getElem_cons_zero, Act.put, List.setIfInBounds_toArray, List.set_cons_zero, List.set_cons_succ]); (refine' wpAnyH_take (i := 26) (v := _) rfl (by kernel_rfl) (by kernel_rfl) (by kernel_rfl) (fun _ _ _ h => h) (Or.inr ⟨by rfl, rfl⟩) (by assumption) ?rest779; simp only [List.getElem_toArray, List.getElem_cons_succ, List.getElem_cons_zero, Act.put, List.setIfInBounds_toArray, List.set_cons_zero, List.set_cons_succ]); (refine' wpAnyH_take (i := 27) (v := _) rfl (by kernel_rfl) (by kernel_rfl) (by kernel_rfl) (fun _ _ _ h => h) (Or.inr ⟨by rfl, rfl⟩) (by assumption) ?rest780; simp only [List.getElem_toArray, List.getElem_cons_succ, List.getElem_cons_zero, Act.put, List.setIfInBounds_toArray, List.set_cons_zero, List.set_cons_succ]); (refine' wpAnyH_take (i := 28) (v := _) rfl (by kernel_rfl) (by kernel_rfl) (by kernel_rfl) (fun _ _ _ h => h) (Or.inr ⟨by rfl, rfl⟩) (by assumption) ?rest781; simp only [List.getElem_toArray, List.getElem_cons_succ, List.getElem_cons_zero, Act.put, List.setIfInBounds_toArray, List.set_cons_zero, List.set_cons_succ]); (refine' wpAnyH_take (i := 29) (v := _) rfl (by kernel_rfl) (by kernel_rfl) (by kernel_rfl) (fun _ _ _ h => h) (Or.inr ⟨by rfl, rfl⟩) (by assumption) ?rest782; simp only [List.getElem_toArray, List.getElem_cons_succ, List.getElem_cons_zero, Act.put, List.setIfInBounds_toArray, List.set_cons_zero, List.set_cons_succ]); (refine' wpAnyH_take (i := 30) (v := _) rfl (by kernel_rfl) (by kernel_rfl) (by kernel_rfl) (fun _ _ _ h => h) (Or.inr ⟨by rfl, rfl⟩) (by assumption) ?rest783; simp only [List.getElem_toArray, List.getElem_cons_succ, List.getElem_cons_zero, Act.put, List.setIfInBounds_toArray, List.set_cons_zero, List.set_cons_succ]))
                  ((refine' wpAnyH_take (i := 31) (v := _) rfl (by kernel_rfl) (by kernel_rfl) (by kernel_rfl) (fun _ _ _ h => h) (Or.inl ⟨by rfl, ?hy784⟩) (by assumption) ?rest784; (case hy784 => (intro w hSw; (try dsimp only at hSw); go_simp <;> with_reducible rfl)); simp only [List.getElem_toArray, List.getElem_cons_succ, List.getElem_cons_zero, Act.put, List.setIfInBounds_toArray, List.set_cons_zero, List.set_cons_succ]))
                  refine wpAnyH_done (by kernel_rfl) ?_ _
                  go_wp2_with fail
                  go_roundw
                  case rel => exact ⟨j + 1, by omega, by go_num, HCj.out.trans (Hb.out.trans ((Calm.refl wd).drew))⟩
                  case measure => simp [intOf]; omega
              · have htb := bytes_ne ht
                refine wp_region_held_drew (S := fun W => Box (W.cell? ⟨wo.heap.size, 0, none⟩ = some (.string xg) ∧ W.cell? ⟨wo.heap.size, 1, none⟩ = some (.string xt) ∧ W.cell? ⟨wo.heap.size, 2, none⟩ = some (.int .i64 xq) ∧ W.cell? ⟨wo.heap.size, 3, none⟩ = some (.int .i64 xa)) ∧ Box (W.cell? ⟨wj.heap.size, 0, none⟩ = some (.string yg) ∧ W.cell? ⟨wj.heap.size, 1, none⟩ = some (.string yt) ∧ W.cell? ⟨wj.heap.size, 2, none⟩ = some (.int .i64 yq))) (by kernel_rfl) (hSS.out _ (Calm.refl wd).drew) (fun hHeld => ?_)
                ((refine' wpAnyH_take (i := 0) (v := _) rfl (by kernel_rfl) (by kernel_rfl) (by kernel_rfl) (fun _ _ _ h => h) (Or.inl ⟨by rfl, ?hy785⟩) (by assumption) ?rest785; (case hy785 => (intro w hSw; (try dsimp only at hSw); go_simp <;> with_reducible rfl)); simp only [List.getElem_toArray, List.getElem_cons_succ, List.getElem_cons_zero, Act.put, List.setIfInBounds_toArray, List.set_cons_zero, List.set_cons_succ]))
                ((refine' wpAnyH_take (i := 1) (v := _) rfl (by kernel_rfl) (by kernel_rfl) (by kernel_rfl) (fun _ _ _ h => h) (Or.inl ⟨by rfl, ?hy786⟩) (by assumption) ?rest786; (case hy786 => (intro w hSw; obtain ⟨⟨hSw1⟩, ⟨hSw2⟩⟩ := hSw; go_simp <;> with_reducible rfl)); simp only [List.getElem_toArray, List.getElem_cons_succ, List.getElem_cons_zero, Act.put, List.setIfInBounds_toArray, List.set_cons_zero, List.set_cons_succ]))
                ((refine' wpAnyH_take (i := 2) (v := _) rfl (by kernel_rfl) (by kernel_rfl) (by kernel_rfl) (fun _ _ _ h => h) (Or.inl ⟨by rfl, ?hy787⟩) (by assumption) ?rest787; (case hy787 => (intro w hSw; (try dsimp only at hSw); go_simp <;> with_reducible rfl)); simp only [List.getElem_toArray, List.getElem_cons_succ, List.getElem_cons_zero, Act.put, List.setIfInBounds_toArray, List.set_cons_zero, List.set_cons_succ]))
                ((refine' wpAnyH_take (i := 3) (v := _) rfl (by kernel_rfl) (by kernel_rfl) (by kernel_rfl) (fun _ _ _ h => h) (Or.inl ⟨by rfl, ?hy788⟩) (by assumption) ?rest788; (case hy788 => (intro w hSw; obtain ⟨⟨hSw1⟩, ⟨hSw2⟩⟩ := hSw; go_simp <;> with_reducible rfl)); simp only [List.getElem_toArray, List.getElem_cons_succ, List.getElem_cons_zero, Act.put, List.setIfInBounds_toArray, List.set_cons_zero, List.set_cons_succ]))
                ((refine' wpAnyH_take (i := 4) (v := _) rfl (by kernel_rfl) (by kernel_rfl) (by kernel_rfl) (fun _ _ _ h => h) (Or.inl ⟨by rfl, ?hy789⟩) (by assumption) ?rest789; (case hy789 => (intro w hSw; (try dsimp only at hSw); go_simp <;> with_reducible rfl)); simp only [List.getElem_toArray, List.getElem_cons_succ, List.getElem_cons_zero, Act.put, List.setIfInBounds_toArray, List.set_cons_zero, List.set_cons_succ]); (refine' wpAnyH_take (i := 5) (v := _) rfl (by kernel_rfl) (by kernel_rfl) (by kernel_rfl) (fun _ _ _ h => h) (Or.inl ⟨by rfl, ?hy790⟩) (by assumption) ?rest790; (case hy790 => (intro w hSw; (try dsimp only at hSw); go_simp <;> with_reducible rfl)); simp only [List.getElem_toArray, List.getElem_cons_succ, List.getElem_cons_zero, Act.put, List.setIfInBounds_toArray, List.set_cons_zero, List.set_cons_succ]); (refine' wpAnyH_take (i := 6) (v := _) rfl (by kernel_rfl) (by kernel_rfl) (by kernel_rfl) (fun _ _ _ h => h) (Or.inl ⟨by rfl, ?hy791⟩) (by assumption) ?rest791; (case hy791 => (intro w hSw; (try dsimp only at hSw); go_simp <;> with_reducible rfl)); simp only [List.getElem_toArray, List.getElem_cons_succ, List.getElem_cons_zero, Act.put, List.setIfInBounds_toArray, List.set_cons_zero, List.set_cons_succ]))
                ((refine' wpAnyH_take (i := 7) (v := _) rfl (by kernel_rfl) (by kernel_rfl) (by kernel_rfl) (fun _ _ _ h => h) (Or.inl ⟨by rfl, ?hy792⟩) (by assumption) ?rest792; (case hy792 => (intro w hSw; obtain ⟨⟨hSw1⟩, ⟨hSw2⟩⟩ := hSw; go_simp <;> with_reducible rfl)); simp only [List.getElem_toArray, List.getElem_cons_succ, List.getElem_cons_zero, Act.put, List.setIfInBounds_toArray, List.set_cons_zero, List.set_cons_succ]))
                ((refine' wpAnyH_take (i := 8) (v := _) rfl (by kernel_rfl) (by kernel_rfl) (by kernel_rfl) (fun _ _ _ h => h) (Or.inl ⟨by rfl, ?hy793⟩) (by assumption) ?rest793; (case hy793 => (intro w hSw; (try dsimp only at hSw); go_simp <;> with_reducible rfl)); simp only [List.getElem_toArray, List.getElem_cons_succ, List.getElem_cons_zero, Act.put, List.setIfInBounds_toArray, List.set_cons_zero, List.set_cons_succ]))
                ((refine' wpAnyH_take (i := 9) (v := _) rfl (by kernel_rfl) (by kernel_rfl) (by kernel_rfl) (fun _ _ _ h => h) (Or.inl ⟨by rfl, ?hy794⟩) (by assumption) ?rest794; (case hy794 => (intro w hSw; obtain ⟨⟨hSw1⟩, ⟨hSw2⟩⟩ := hSw; go_simp <;> with_reducible rfl)); simp only [List.getElem_toArray, List.getElem_cons_succ, List.getElem_cons_zero, Act.put, List.setIfInBounds_toArray, List.set_cons_zero, List.set_cons_succ]))
                ((refine' wpAnyH_take (i := 10) (v := _) rfl (by kernel_rfl) (by kernel_rfl) (by kernel_rfl) (fun _ _ _ h => h) (Or.inl ⟨by rfl, ?hy795⟩) (by assumption) ?rest795; (case hy795 => (intro w hSw; (try dsimp only at hSw); go_simp <;> with_reducible rfl)); simp only [List.getElem_toArray, List.getElem_cons_succ, List.getElem_cons_zero, Act.put, List.setIfInBounds_toArray, List.set_cons_zero, List.set_cons_succ]); (refine' wpAnyH_take (i := 11) (v := _) rfl (by kernel_rfl) (by kernel_rfl) (by kernel_rfl) (fun _ _ _ h => h) (Or.inl ⟨by rfl, ?hy796⟩) (by assumption) ?rest796; (case hy796 => (intro w hSw; (try dsimp only at hSw); go_simp <;> with_reducible rfl)); simp only [List.getElem_toArray, List.getElem_cons_succ, List.getElem_cons_zero, Act.put, List.setIfInBounds_toArray, List.set_cons_zero, List.set_cons_succ]); (refine' wpAnyH_take (i := 12) (v := _) rfl (by kernel_rfl) (by kernel_rfl) (by kernel_rfl) (fun _ _ _ h => h) (Or.inl ⟨by rfl, ?hy797⟩) (by assumption) ?rest797; (case hy797 => (intro w hSw; (try dsimp only at hSw); go_simp <;> with_reducible rfl)); simp only [List.getElem_toArray, List.getElem_cons_succ, List.getElem_cons_zero, Act.put, List.setIfInBounds_toArray, List.set_cons_zero, List.set_cons_succ]))
                ((refine' wpAnyH_take (i := 13) (v := _) rfl (by kernel_rfl) (by kernel_rfl) (by kernel_rfl) (fun _ _ _ h => h) (Or.inr ⟨by rfl, rfl⟩) (by assumption) ?rest798; simp only [List.getElem_toArray, List.getElem_cons_succ, List.getElem_cons_zero, Act.put, List.setIfInBounds_toArray, List.set_cons_zero, List.set_cons_succ]); (refine' wpAnyH_take (i := 14) (v := _) rfl (by kernel_rfl) (by kernel_rfl) (by kernel_rfl) (fun _ _ _ h => h) (Or.inr ⟨by rfl, rfl⟩) (by assumption) ?rest799; simp only [List.getElem_toArray, List.getElem_cons_succ, List.getElem_cons_zero, Act.put, List.setIfInBounds_toArray, List.set_cons_zero, List.set_cons_succ]); (refine' wpAnyH_take (i := 15) (v := _) rfl (by kernel_rfl) (by kernel_rfl) (by kernel_rfl) (fun _ _ _ h => h) (Or.inr ⟨by rfl, rfl⟩) (by assumption) ?rest800; simp only [List.getElem_toArray, List.getElem_cons_succ, List.getElem_cons_zero, Act.put, List.setIfInBounds_toArray, List.set_cons_zero, List.set_cons_succ]); (refine' wpAnyH_take (i := 16) (v := _) rfl (by kernel_rfl) (by kernel_rfl) (by kernel_rfl) (fun _ _ _ h => h) (Or.inr ⟨by rfl, rfl⟩) (by assumption) ?rest801; simp only [List.getElem_toArray, List.getElem_cons_succ, List.getElem_cons_zero, Act.put, List.setIfInBounds_toArray, List.set_cons_zero, List.set_cons_succ]); (refine' wpAnyH_take (i := 17) (v := _) rfl (by kernel_rfl) (by kernel_rfl) (by kernel_rfl) (fun _ _ _ h => h) (Or.inr ⟨by rfl, rfl⟩) (by assumption) ?rest802; simp only [List.getElem_toArray, List.getElem_cons_succ, List.getElem_cons_zero, Act.put, List.setIfInBounds_toArray, List.set_cons_zero, List.set_cons_succ]))
                ((refine' wpAnyH_take (i := 18) (v := _) rfl (by kernel_rfl) (by kernel_rfl) (by kernel_rfl) (fun _ _ _ h => h) (Or.inl ⟨by rfl, ?hy803⟩) (by assumption) ?rest803; (case hy803 => (intro w hSw; (try dsimp only at hSw); go_simp <;> with_reducible rfl)); simp only [List.getElem_toArray, List.getElem_cons_succ, List.getElem_cons_zero, Act.put, List.setIfInBounds_toArray, List.set_cons_zero, List.set_cons_succ]); (refine' wpAnyH_take (i := 19) (v := _) rfl (by kernel_rfl) (by kernel_rfl) (by kernel_rfl) (fun _ _ _ h => h) (Or.inl ⟨by rfl, ?hy804⟩) (by assumption) ?rest804; (case hy804 => (intro w hSw; (try dsimp only at hSw); go_simp <;> with_reducible rfl)); simp only [List.getElem_toArray, List.getElem_cons_succ, List.getElem_cons_zero, Act.put, List.setIfInBounds_toArray, List.set_cons_zero, List.set_cons_succ]))
                ((refine' wpAnyH_take (i := 20) (v := _) rfl (by kernel_rfl) (by kernel_rfl) (by kernel_rfl) (fun _ _ _ h => h) (Or.inr ⟨by rfl, rfl⟩) (by assumption) ?rest805; simp only [List.getElem_toArray, List.getElem_cons_succ, List.getElem_cons_zero, Act.put, List.setIfInBounds_toArray, List.set_cons_zero, List.set_cons_succ]); (refine' wpAnyH_take (i := 21) (v := _) rfl (by kernel_rfl) (by kernel_rfl) (by kernel_rfl) (fun _ _ _ h => h) (Or.inr ⟨by rfl, rfl⟩) (by assumption) ?rest806; simp only [List.getElem_toArray, List.getElem_cons_succ, List.getElem_cons_zero, Act.put, List.setIfInBounds_toArray, List.set_cons_zero, List.set_cons_succ]); (refine' wpAnyH_take (i := 22) (v := _) rfl (by kernel_rfl) (by kernel_rfl) (by kernel_rfl) (fun _ _ _ h => h) (Or.inr ⟨by rfl, rfl⟩) (by assumption) ?rest807; simp only [List.getElem_toArray, List.getElem_cons_succ, List.getElem_cons_zero, Act.put, List.setIfInBounds_toArray, List.set_cons_zero, List.set_cons_succ]); (refine' wpAnyH_take (i := 23) (v := _) rfl (by kernel_rfl) (by kernel_rfl) (by kernel_rfl) (fun _ _ _ h => h) (Or.inr ⟨by rfl, rfl⟩) (by assumption) ?rest808; simp only [List.getElem_toArray, List.getElem_cons_succ, List.getElem_cons_zero, Act.put, List.setIfInBounds_toArray, List.set_cons_zero, List.set_cons_succ]); (refine' wpAnyH_take (i := 24) (v := _) rfl (by kernel_rfl) (by kernel_rfl) (by kernel_rfl) (fun _ _ _ h => h) (Or.inr ⟨by rfl, rfl⟩) (by assumption) ?rest809; simp only [List.getElem_toArray, List.getElem_cons_succ, List.getElem_cons_zero, Act.put, List.setIfInBounds_toArray, List.set_cons_zero, List.set_cons_succ]); (refine' wpAnyH_take (i := 25) (v := _) rfl (by kernel_rfl) (by kernel_rfl) (by kernel_rfl) (fun _ _ _ h => h) (Or.inr ⟨by rfl, rfl⟩) (by assumption) ?rest810; simp only [List.getElem_toArray, List.getElem_cons_succ, List.getElem_cons_zero, Act.put, List.setIfInBounds_toArray, List.set_cons_zero, List.set_cons_succ]); (refine' wpAnyH_take (i := 26) (v := _) rfl (by kernel_rfl) (by kernel_rfl) (by kernel_rfl) (fun _ _ _ h => h) (Or.inr ⟨by rfl, rfl⟩) (by assumption) ?rest811; simp only [List.getElem_toArray, List.getElem_cons_succ, List.getElem_cons_zero, Act.put, List.setIfInBounds_toArray, List.set_cons_zero, List.set_cons_succ]); (refine' wpAnyH_take (i := 27) (v := _) rfl (by kernel_rfl) (by kernel_rfl) (by kernel_rfl) (fun _ _ _ h => h) (Or.inr ⟨by rfl, rfl⟩) (by assumption) ?rest812; simp only [List.getElem_toArray, List.getElem_cons_succ, List.getElem_cons_zero, Act.put, List.setIfInBounds_toArray, List.set_cons_zero, List.set_cons_succ]); (refine' wpAnyH_take (i := 28) (v := _) rfl (by kernel_rfl) (by kernel_rfl) (by kernel_rfl) (fun _ _ _ h => h) (Or.inr ⟨by rfl, rfl⟩) (by assumption) ?rest813; simp only [List.getElem_toArray, List.getElem_cons_succ, List.getElem_cons_zero, Act.put, List.setIfInBounds_toArray, List.set_cons_zero, List.set_cons_succ]); (refine' wpAnyH_take (i := 29) (v := _) rfl (by kernel_rfl) (by kernel_rfl) (by kernel_rfl) (fun _ _ _ h => h) (Or.inr ⟨by rfl, rfl⟩) (by assumption) ?rest814; simp only [List.getElem_toArray, List.getElem_cons_succ, List.getElem_cons_zero, Act.put, List.setIfInBounds_toArray, List.set_cons_zero, List.set_cons_succ]); (refine' wpAnyH_take (i := 30) (v := _) rfl (by kernel_rfl) (by kernel_rfl) (by kernel_rfl) (fun _ _ _ h => h) (Or.inr ⟨by rfl, rfl⟩) (by assumption) ?rest815; simp only [List.getElem_toArray, List.getElem_cons_succ, List.getElem_cons_zero, Act.put, List.setIfInBounds_toArray, List.set_cons_zero, List.set_cons_succ]))
                ((refine' wpAnyH_take (i := 31) (v := _) rfl (by kernel_rfl) (by kernel_rfl) (by kernel_rfl) (fun _ _ _ h => h) (Or.inl ⟨by rfl, ?hy816⟩) (by assumption) ?rest816; (case hy816 => (intro w hSw; (try dsimp only at hSw); go_simp <;> with_reducible rfl)); simp only [List.getElem_toArray, List.getElem_cons_succ, List.getElem_cons_zero, Act.put, List.setIfInBounds_toArray, List.set_cons_zero, List.set_cons_succ]))
                refine wpAnyH_done (by kernel_rfl) ?_ _
                go_wp2_with fail
                go_roundw
                case rel => exact ⟨j + 1, by omega, by go_num, HCj.out.trans (Hb.out.trans ((Calm.refl wd).drew))⟩
                case measure => simp [intOf]; omega
            · have hgb := bytes_ne hg
              refine wp_region_held_drew (S := fun W => Box (W.cell? ⟨wo.heap.size, 0, none⟩ = some (.string xg) ∧ W.cell? ⟨wo.heap.size, 1, none⟩ = some (.string xt) ∧ W.cell? ⟨wo.heap.size, 2, none⟩ = some (.int .i64 xq) ∧ W.cell? ⟨wo.heap.size, 3, none⟩ = some (.int .i64 xa)) ∧ Box (W.cell? ⟨wj.heap.size, 0, none⟩ = some (.string yg) ∧ W.cell? ⟨wj.heap.size, 1, none⟩ = some (.string yt) ∧ W.cell? ⟨wj.heap.size, 2, none⟩ = some (.int .i64 yq))) (by kernel_rfl) (hSS.out _ (Calm.refl wd).drew) (fun hHeld => ?_)
              ((refine' wpAnyH_take (i := 0) (v := _) rfl (by kernel_rfl) (by kernel_rfl) (by kernel_rfl) (fun _ _ _ h => h) (Or.inl ⟨by rfl, ?hy817⟩) (by assumption) ?rest817; (case hy817 => (intro w hSw; (try dsimp only at hSw); go_simp <;> with_reducible rfl)); simp only [List.getElem_toArray, List.getElem_cons_succ, List.getElem_cons_zero, Act.put, List.setIfInBounds_toArray, List.set_cons_zero, List.set_cons_succ]))
              ((refine' wpAnyH_take (i := 1) (v := _) rfl (by kernel_rfl) (by kernel_rfl) (by kernel_rfl) (fun _ _ _ h => h) (Or.inl ⟨by rfl, ?hy818⟩) (by assumption) ?rest818; (case hy818 => (intro w hSw; obtain ⟨⟨hSw1⟩, ⟨hSw2⟩⟩ := hSw; go_simp <;> with_reducible rfl)); simp only [List.getElem_toArray, List.getElem_cons_succ, List.getElem_cons_zero, Act.put, List.setIfInBounds_toArray, List.set_cons_zero, List.set_cons_succ]))
              ((refine' wpAnyH_take (i := 2) (v := _) rfl (by kernel_rfl) (by kernel_rfl) (by kernel_rfl) (fun _ _ _ h => h) (Or.inl ⟨by rfl, ?hy819⟩) (by assumption) ?rest819; (case hy819 => (intro w hSw; (try dsimp only at hSw); go_simp <;> with_reducible rfl)); simp only [List.getElem_toArray, List.getElem_cons_succ, List.getElem_cons_zero, Act.put, List.setIfInBounds_toArray, List.set_cons_zero, List.set_cons_succ]))
              ((refine' wpAnyH_take (i := 3) (v := _) rfl (by kernel_rfl) (by kernel_rfl) (by kernel_rfl) (fun _ _ _ h => h) (Or.inl ⟨by rfl, ?hy820⟩) (by assumption) ?rest820; (case hy820 => (intro w hSw; obtain ⟨⟨hSw1⟩, ⟨hSw2⟩⟩ := hSw; go_simp <;> with_reducible rfl)); simp only [List.getElem_toArray, List.getElem_cons_succ, List.getElem_cons_zero, Act.put, List.setIfInBounds_toArray, List.set_cons_zero, List.set_cons_succ]))
              ((refine' wpAnyH_take (i := 4) (v := _) rfl (by kernel_rfl) (by kernel_rfl) (by kernel_rfl) (fun _ _ _ h => h) (Or.inl ⟨by rfl, ?hy821⟩) (by assumption) ?rest821; (case hy821 => (intro w hSw; (try dsimp only at hSw); go_simp <;> with_reducible rfl)); simp only [List.getElem_toArray, List.getElem_cons_succ, List.getElem_cons_zero, Act.put, List.setIfInBounds_toArray, List.set_cons_zero, List.set_cons_succ]); (refine' wpAnyH_take (i := 5) (v := _) rfl (by kernel_rfl) (by kernel_rfl) (by kernel_rfl) (fun _ _ _ h => h) (Or.inl ⟨by rfl, ?hy822⟩) (by assumption) ?rest822; (case hy822 => (intro w hSw; (try dsimp only at hSw); go_simp <;> with_reducible rfl)); simp only [List.getElem_toArray, List.getElem_cons_succ, List.getElem_cons_zero, Act.put, List.setIfInBounds_toArray, List.set_cons_zero, List.set_cons_succ]))
              ((refine' wpAnyH_take (i := 6) (v := _) rfl (by kernel_rfl) (by kernel_rfl) (by kernel_rfl) (fun _ _ _ h => h) (Or.inr ⟨by rfl, rfl⟩) (by assumption) ?rest823; simp only [List.getElem_toArray, List.getElem_cons_succ, List.getElem_cons_zero, Act.put, List.setIfInBounds_toArray, List.set_cons_zero, List.set_cons_succ]); (refine' wpAnyH_take (i := 7) (v := _) rfl (by kernel_rfl) (by kernel_rfl) (by kernel_rfl) (fun _ _ _ h => h) (Or.inr ⟨by rfl, rfl⟩) (by assumption) ?rest824; simp only [List.getElem_toArray, List.getElem_cons_succ, List.getElem_cons_zero, Act.put, List.setIfInBounds_toArray, List.set_cons_zero, List.set_cons_succ]); (refine' wpAnyH_take (i := 8) (v := _) rfl (by kernel_rfl) (by kernel_rfl) (by kernel_rfl) (fun _ _ _ h => h) (Or.inr ⟨by rfl, rfl⟩) (by assumption) ?rest825; simp only [List.getElem_toArray, List.getElem_cons_succ, List.getElem_cons_zero, Act.put, List.setIfInBounds_toArray, List.set_cons_zero, List.set_cons_succ]); (refine' wpAnyH_take (i := 9) (v := _) rfl (by kernel_rfl) (by kernel_rfl) (by kernel_rfl) (fun _ _ _ h => h) (Or.inr ⟨by rfl, rfl⟩) (by assumption) ?rest826; simp only [List.getElem_toArray, List.getElem_cons_succ, List.getElem_cons_zero, Act.put, List.setIfInBounds_toArray, List.set_cons_zero, List.set_cons_succ]); (refine' wpAnyH_take (i := 10) (v := _) rfl (by kernel_rfl) (by kernel_rfl) (by kernel_rfl) (fun _ _ _ h => h) (Or.inr ⟨by rfl, rfl⟩) (by assumption) ?rest827; simp only [List.getElem_toArray, List.getElem_cons_succ, List.getElem_cons_zero, Act.put, List.setIfInBounds_toArray, List.set_cons_zero, List.set_cons_succ]))
              ((refine' wpAnyH_take (i := 11) (v := _) rfl (by kernel_rfl) (by kernel_rfl) (by kernel_rfl) (fun _ _ _ h => h) (Or.inl ⟨by rfl, ?hy828⟩) (by assumption) ?rest828; (case hy828 => (intro w hSw; (try dsimp only at hSw); go_simp <;> with_reducible rfl)); simp only [List.getElem_toArray, List.getElem_cons_succ, List.getElem_cons_zero, Act.put, List.setIfInBounds_toArray, List.set_cons_zero, List.set_cons_succ]); (refine' wpAnyH_take (i := 12) (v := _) rfl (by kernel_rfl) (by kernel_rfl) (by kernel_rfl) (fun _ _ _ h => h) (Or.inl ⟨by rfl, ?hy829⟩) (by assumption) ?rest829; (case hy829 => (intro w hSw; (try dsimp only at hSw); go_simp <;> with_reducible rfl)); simp only [List.getElem_toArray, List.getElem_cons_succ, List.getElem_cons_zero, Act.put, List.setIfInBounds_toArray, List.set_cons_zero, List.set_cons_succ]))
              ((refine' wpAnyH_take (i := 13) (v := _) rfl (by kernel_rfl) (by kernel_rfl) (by kernel_rfl) (fun _ _ _ h => h) (Or.inr ⟨by rfl, rfl⟩) (by assumption) ?rest830; simp only [List.getElem_toArray, List.getElem_cons_succ, List.getElem_cons_zero, Act.put, List.setIfInBounds_toArray, List.set_cons_zero, List.set_cons_succ]); (refine' wpAnyH_take (i := 14) (v := _) rfl (by kernel_rfl) (by kernel_rfl) (by kernel_rfl) (fun _ _ _ h => h) (Or.inr ⟨by rfl, rfl⟩) (by assumption) ?rest831; simp only [List.getElem_toArray, List.getElem_cons_succ, List.getElem_cons_zero, Act.put, List.setIfInBounds_toArray, List.set_cons_zero, List.set_cons_succ]); (refine' wpAnyH_take (i := 15) (v := _) rfl (by kernel_rfl) (by kernel_rfl) (by kernel_rfl) (fun _ _ _ h => h) (Or.inr ⟨by rfl, rfl⟩) (by assumption) ?rest832; simp only [List.getElem_toArray, List.getElem_cons_succ, List.getElem_cons_zero, Act.put, List.setIfInBounds_toArray, List.set_cons_zero, List.set_cons_succ]); (refine' wpAnyH_take (i := 16) (v := _) rfl (by kernel_rfl) (by kernel_rfl) (by kernel_rfl) (fun _ _ _ h => h) (Or.inr ⟨by rfl, rfl⟩) (by assumption) ?rest833; simp only [List.getElem_toArray, List.getElem_cons_succ, List.getElem_cons_zero, Act.put, List.setIfInBounds_toArray, List.set_cons_zero, List.set_cons_succ]); (refine' wpAnyH_take (i := 17) (v := _) rfl (by kernel_rfl) (by kernel_rfl) (by kernel_rfl) (fun _ _ _ h => h) (Or.inr ⟨by rfl, rfl⟩) (by assumption) ?rest834; simp only [List.getElem_toArray, List.getElem_cons_succ, List.getElem_cons_zero, Act.put, List.setIfInBounds_toArray, List.set_cons_zero, List.set_cons_succ]))
              ((refine' wpAnyH_take (i := 18) (v := _) rfl (by kernel_rfl) (by kernel_rfl) (by kernel_rfl) (fun _ _ _ h => h) (Or.inl ⟨by rfl, ?hy835⟩) (by assumption) ?rest835; (case hy835 => (intro w hSw; (try dsimp only at hSw); go_simp <;> with_reducible rfl)); simp only [List.getElem_toArray, List.getElem_cons_succ, List.getElem_cons_zero, Act.put, List.setIfInBounds_toArray, List.set_cons_zero, List.set_cons_succ]); (refine' wpAnyH_take (i := 19) (v := _) rfl (by kernel_rfl) (by kernel_rfl) (by kernel_rfl) (fun _ _ _ h => h) (Or.inl ⟨by rfl, ?hy836⟩) (by assumption) ?rest836; (case hy836 => (intro w hSw; (try dsimp only at hSw); go_simp <;> with_reducible rfl)); simp only [List.getElem_toArray, List.getElem_cons_succ, List.getElem_cons_zero, Act.put, List.setIfInBounds_toArray, List.set_cons_zero, List.set_cons_succ]))
              ((refine' wpAnyH_take (i := 20) (v := _) rfl (by kernel_rfl) (by kernel_rfl) (by kernel_rfl) (fun _ _ _ h => h) (Or.inr ⟨by rfl, rfl⟩) (by assumption) ?rest837; simp only [List.getElem_toArray, List.getElem_cons_succ, List.getElem_cons_zero, Act.put, List.setIfInBounds_toArray, List.set_cons_zero, List.set_cons_succ]); (refine' wpAnyH_take (i := 21) (v := _) rfl (by kernel_rfl) (by kernel_rfl) (by kernel_rfl) (fun _ _ _ h => h) (Or.inr ⟨by rfl, rfl⟩) (by assumption) ?rest838; simp only [List.getElem_toArray, List.getElem_cons_succ, List.getElem_cons_zero, Act.put, List.setIfInBounds_toArray, List.set_cons_zero, List.set_cons_succ]); (refine' wpAnyH_take (i := 22) (v := _) rfl (by kernel_rfl) (by kernel_rfl) (by kernel_rfl) (fun _ _ _ h => h) (Or.inr ⟨by rfl, rfl⟩) (by assumption) ?rest839; simp only [List.getElem_toArray, List.getElem_cons_succ, List.getElem_cons_zero, Act.put, List.setIfInBounds_toArray, List.set_cons_zero, List.set_cons_succ]); (refine' wpAnyH_take (i := 23) (v := _) rfl (by kernel_rfl) (by kernel_rfl) (by kernel_rfl) (fun _ _ _ h => h) (Or.inr ⟨by rfl, rfl⟩) (by assumption) ?rest840; simp only [List.getElem_toArray, List.getElem_cons_succ, List.getElem_cons_zero, Act.put, List.setIfInBounds_toArray, List.set_cons_zero, List.set_cons_succ]); (refine' wpAnyH_take (i := 24) (v := _) rfl (by kernel_rfl) (by kernel_rfl) (by kernel_rfl) (fun _ _ _ h => h) (Or.inr ⟨by rfl, rfl⟩) (by assumption) ?rest841; simp only [List.getElem_toArray, List.getElem_cons_succ, List.getElem_cons_zero, Act.put, List.setIfInBounds_toArray, List.set_cons_zero, List.set_cons_succ]); (refine' wpAnyH_take (i := 25) (v := _) rfl (by kernel_rfl) (by kernel_rfl) (by kernel_rfl) (fun _ _ _ h => h) (Or.inr ⟨by rfl, rfl⟩) (by assumption) ?rest842; simp only [List.getElem_toArray, List.getElem_cons_succ, List.getElem_cons_zero, Act.put, List.setIfInBounds_toArray, List.set_cons_zero, List.set_cons_succ]); (refine' wpAnyH_take (i := 26) (v := _) rfl (by kernel_rfl) (by kernel_rfl) (by kernel_rfl) (fun _ _ _ h => h) (Or.inr ⟨by rfl, rfl⟩) (by assumption) ?rest843; simp only [List.getElem_toArray, List.getElem_cons_succ, List.getElem_cons_zero, Act.put, List.setIfInBounds_toArray, List.set_cons_zero, List.set_cons_succ]); (refine' wpAnyH_take (i := 27) (v := _) rfl (by kernel_rfl) (by kernel_rfl) (by kernel_rfl) (fun _ _ _ h => h) (Or.inr ⟨by rfl, rfl⟩) (by assumption) ?rest844; simp only [List.getElem_toArray, List.getElem_cons_succ, List.getElem_cons_zero, Act.put, List.setIfInBounds_toArray, List.set_cons_zero, List.set_cons_succ]); (refine' wpAnyH_take (i := 28) (v := _) rfl (by kernel_rfl) (by kernel_rfl) (by kernel_rfl) (fun _ _ _ h => h) (Or.inr ⟨by rfl, rfl⟩) (by assumption) ?rest845; simp only [List.getElem_toArray, List.getElem_cons_succ, List.getElem_cons_zero, Act.put, List.setIfInBounds_toArray, List.set_cons_zero, List.set_cons_succ]); (refine' wpAnyH_take (i := 29) (v := _) rfl (by kernel_rfl) (by kernel_rfl) (by kernel_rfl) (fun _ _ _ h => h) (Or.inr ⟨by rfl, rfl⟩) (by assumption) ?rest846; simp only [List.getElem_toArray, List.getElem_cons_succ, List.getElem_cons_zero, Act.put, List.setIfInBounds_toArray, List.set_cons_zero, List.set_cons_succ]); (refine' wpAnyH_take (i := 30) (v := _) rfl (by kernel_rfl) (by kernel_rfl) (by kernel_rfl) (fun _ _ _ h => h) (Or.inr ⟨by rfl, rfl⟩) (by assumption) ?rest847; simp only [List.getElem_toArray, List.getElem_cons_succ, List.getElem_cons_zero, Act.put, List.setIfInBounds_toArray, List.set_cons_zero, List.set_cons_succ]))
              ((refine' wpAnyH_take (i := 31) (v := _) rfl (by kernel_rfl) (by kernel_rfl) (by kernel_rfl) (fun _ _ _ h => h) (Or.inl ⟨by rfl, ?hy848⟩) (by assumption) ?rest848; (case hy848 => (intro w hSw; (try dsimp only at hSw); go_simp <;> with_reducible rfl)); simp only [List.getElem_toArray, List.getElem_cons_succ, List.getElem_cons_zero, Act.put, List.setIfInBounds_toArray, List.set_cons_zero, List.set_cons_succ]))
              refine wpAnyH_done (by kernel_rfl) ?_ _
              go_wp2_with fail
              go_roundw
              case rel => exact ⟨j + 1, by omega, by go_num, HCj.out.trans (Hb.out.trans ((Calm.refl wd).drew))⟩
              case measure => simp [intOf]; omega
          · obtain rfl : j = k + 1 := by omega
            go_wp2_with fail
            go_roundw
            case rel => exact ⟨k + 1, lst', u5, by omega, by go_num, box (H5.out.calm HCj.out)⟩
            case measure => simp [intOf]; omega
      · have hne : (c == 0) = false := beq_eq_false_iff_ne.2 hc0
        have hne2 : (c != 0) = true := by simp [bne, hne]
        go_wp2_with fail
        go_roundw
        case rel => exact ⟨k + 1, lst', u5, by omega, by go_num, H5⟩
        case measure => simp [intOf]; omega
    · obtain rfl : k = l.length := by omega
      have HG := box HS.out.good
      go_wp2_with fail
      refine (HS.out.flush (by decide) (fun f hf => by cases hf) (Nat.zero_le _)).mono ?_
      rintro e w4 ⟨b, F4, _, rfl, h4, _⟩
      obtain ⟨D4, hD4, hf4, hw4, hd4, hS4⟩ := flush_new 65536 (.inl (by decide)) (by decide) HG.out b
      rw [hD4] at h4 ⊢
      have H4 := box h4
      obtain ⟨ho1, ho2, ho3⟩ := Held.open HG.out hS4 hd4
      have hopen := Open_of w4 H4.out.disk ho2 ho3
      rw [ho1] at hopen
      have Hopen := box hopen
      clear h4 hD4 hf4 hw4 hd4 hS4 ho1 ho2 ho3 hopen
      go_wp2_with fail
      refine Hopen.out.mono ?_
      rintro e w7 ⟨hc7, hx⟩
      simp only at hx
      obtain ⟨q, vq, rfl, hq, hqW⟩ := hx
      have HQ := box hq
      have H7 := box (H4.out.calm hc7)
      clear hc7 hq hqW Hopen
      go_wp2_with fail
      refine (oAll_any _ HQ.out).mono ?_
      rintro e w8 ⟨va, rfl, hra, hca⟩
      have HCa := box hca
      have Hra := box hra
      obtain ⟨aa, acap, rfl, _⟩ := hra.offs
      have H8 := box (H7.out.calm hca)
      clear hra hca
      go_wp2_with fail
      refine (oAll_any _ H8.out.ofs).mono ?_
      rintro e w9 ⟨vb, rfl, hrb, hcb⟩
      have hsm := same_any (.slice aa lst.length acap) vb lst lst w9 (Hra.out.offs.calm hcb) hrb.offs (by have := HG.out.few; omega) (by have := HG.out.few; omega)
      rw [same_self HG.out.rising] at hsm
      have Hsm := box hsm
      obtain ⟨ab, bcap, rfl, _⟩ := hrb.offs
      have HCb := box hcb
      clear hrb hcb hsm
      go_wp2_with fail
      refine Hsm.out.mono ?_
      rintro e w10 ⟨rfl, hcc⟩
      have HCc := box hcc
      clear hcc
      go_wp2_with fail
      go_ret
      exact ⟨ret_bool (by simp), H7.out.owns.calm.trans (HCa.out.trans (HCb.out.trans HCc.out))⟩
end Go.Proofs.YtafdfmdcnniccaaGreat.olast

/- The contracts of package name and of reveilleref03, continued. -/
namespace Go.Proofs.YtafdfmdcnniccaaGreat.nm
open Go.ChangeShapes Go.WideShapes Go.ChangeAt Go.RowKit

theorem rGroup_any (s : ByteArray) (w : World) (hs : s.size ≤ maxLen) :
    Calls Tryz.prog 30 #[.string s] w fun e w' => e = .returned (.bool (groupB s)) ∧ w = w' := by
  cases hp : plainB s
  · have hg : groupB s = false := by unfold groupB groupL; rw [show plainL s.data.toList = false from hp]; rfl
    rw [hg]
    clear hg
    go_enter Tryz.func30, Tryz.ntmps30
    go_wp2_with (go_at_call 59; refine (rPlain_any _ _ hs).mono ?_; rintro e w' ⟨rfl, rfl⟩)
    go_ret
    exact ⟨rfl, rfl⟩
  · have hg : groupB s = decide ((s.size : Int) ≤ 8) := by
      unfold groupB groupL; rw [show plainL s.data.toList = true from hp]; simp; omega
    rw [hg]
    clear hg
    go_enter Tryz.func30, Tryz.ntmps30
    go_wp2_with (go_at_call 59; refine (rPlain_any _ _ hs).mono ?_; rintro e w' ⟨rfl, rfl⟩)
    go_ret
    exact ⟨rfl, rfl⟩

theorem rHas_any (s h : ByteArray) (w : World) (hs : s.size ≤ maxLen) (hh : h.size ≤ 100) :
    Calls Tryz.prog 89 #[.string s, .string h] w fun e w' => e = .returned (.bool (hasS s h)) ∧ w = w' := by
  unfold maxLen at hs
  have hr := Lib.hasPrefix_raw s h
  by_cases h1 : h.size ≤ s.size
  · have hp := box (show hasS s h = ((s.extract 0 h.size).toList == h.toList) by unfold hasS; rw [← hr]; simp [h1])
    clear hr
    go_enter Tryz.func89, Tryz.ntmps89
    go_wp2
    go_ret
    exact ⟨ret_bool (by rw [hp.out]), rfl⟩
  · have hp := box (show hasS s h = false by unfold hasS; rw [← hr]; simp [h1])
    clear hr
    go_enter Tryz.func89, Tryz.ntmps89
    go_wp2
    go_ret
    exact ⟨ret_bool (by rw [hp.out]), rfl⟩

end Go.Proofs.YtafdfmdcnniccaaGreat.nm

/- The contracts of package name and of reveilleref03, continued. -/
namespace Go.Proofs.YtafdfmdcnniccaaGreat.nm
open Go.ChangeShapes Go.WideShapes Go.ChangeAt Go.RowKit

theorem hasS_raw (s h : ByteArray) : hasS s h = (decide (h.size ≤ s.size) && ((s.extract 0 h.size).toList == h.toList)) := by
  unfold hasS; rw [Lib.hasPrefix_raw]
theorem hasS_size {s h : ByteArray} (g : hasS s h = true) : h.size ≤ s.size := by
  rw [hasS_raw] at g; simp at g; exact g.1
theorem cutS_hit {s h : ByteArray} (g : hasS s h = true) : cutS s h = s.extract h.size s.size := by
  rw [hasS_raw, Bool.and_eq_true] at g
  exact Lib.trimPrefix_hit s h (by simpa using g.1) g.2

set_option maxHeartbeats 1000000 in
theorem rOf_any (s : ByteArray) (w : World) (hs : s.size ≤ maxLen) :
    Calls Tryz.prog 60 #[.string s] w fun e w' => e = .returned (.string (ofG s)) ∧ w = w' := by
  have h7 : (s.extract 7 s.size).size ≤ maxLen := by simp; omega
  have h6 : (s.extract 6 s.size).size ≤ maxLen := by simp; omega
  have s7 : hasS s retryC = true → 7 ≤ (s.size : Int) := fun h => by have := hasS_size h; simp [retryC] at this; have e : (ByteArray.mk #[37, 114, 101, 116, 114, 121, 37]).size = 7 := rfl; omega
  have s6 : hasS s deadC = true → 6 ≤ (s.size : Int) := fun h => by have := hasS_size h; simp [deadC] at this; have e : (ByteArray.mk #[37, 100, 101, 97, 100, 37]).size = 6 := rfl; omega
  have c7 : hasS s retryC = true → cutS s retryC = s.extract 7 s.size := fun h => cutS_hit h
  have c6 : hasS s deadC = true → cutS s deadC = s.extract 6 s.size := fun h => cutS_hit h
  rcases three s retryC with ⟨h0, h1⟩ | ⟨h0, h1, h2⟩ | ⟨h0, h1, h2⟩
  · rcases three s deadC with ⟨g0, g1⟩ | ⟨g0, g1, g2⟩ | ⟨g0, g1, g2⟩
    · have e1 := box (show ofG s = ⟨#[]⟩ by unfold ofG; rw [h0, g0]; rfl)
      clear h7 h6 s7 s6 c7 c6 h0 g0
      go_enter Tryz.func60, Tryz.ntmps60
      go_wp2_with (first | (go_at_call 89; refine (rHas_any _ _ _ hs (by decide)).mono ?_; rintro e w' ⟨rfl, rfl⟩) | (go_at_call 30; refine (rGroup_any _ _ (by assumption)).mono ?_; rintro e w' ⟨rfl, rfl⟩))
      go_ret
      exact ⟨ret_str (by rw [e1.out]), rfl⟩
    · have e1 := box (show ofG s = ⟨#[]⟩ by unfold ofG; rw [h0, g0]; rfl)
      have z6 := s6 g1
      rw [c6 g1] at g2
      clear s7 s6 c7 c6 h0 g0
      go_enter Tryz.func60, Tryz.ntmps60
      go_wp2_with (first | (go_at_call 89; refine (rHas_any _ _ _ hs (by decide)).mono ?_; rintro e w' ⟨rfl, rfl⟩) | (go_at_call 30; refine (rGroup_any _ _ (by assumption)).mono ?_; rintro e w' ⟨rfl, rfl⟩))
      go_ret
      exact ⟨ret_str (by rw [e1.out]), rfl⟩
    · have e1 := box (show ofG s = s.extract 6 s.size by unfold ofG; rw [h0, g0, c6 g1]; rfl)
      have z6 := s6 g1
      rw [c6 g1] at g2
      clear s7 s6 c7 c6 h0 g0
      go_enter Tryz.func60, Tryz.ntmps60
      go_wp2_with (first | (go_at_call 89; refine (rHas_any _ _ _ hs (by decide)).mono ?_; rintro e w' ⟨rfl, rfl⟩) | (go_at_call 30; refine (rGroup_any _ _ (by assumption)).mono ?_; rintro e w' ⟨rfl, rfl⟩))
      go_ret
      exact ⟨ret_str (by rw [e1.out]), rfl⟩
  · have z7 := s7 h1
    rw [c7 h1] at h2
    rcases three s deadC with ⟨g0, g1⟩ | ⟨g0, g1, g2⟩ | ⟨g0, g1, g2⟩
    · have e1 := box (show ofG s = ⟨#[]⟩ by unfold ofG; rw [h0, g0]; rfl)
      clear s7 s6 c7 c6 h0 g0
      go_enter Tryz.func60, Tryz.ntmps60
      go_wp2_with (first | (go_at_call 89; refine (rHas_any _ _ _ hs (by decide)).mono ?_; rintro e w' ⟨rfl, rfl⟩) | (go_at_call 30; refine (rGroup_any _ _ (by assumption)).mono ?_; rintro e w' ⟨rfl, rfl⟩))
      go_ret
      exact ⟨ret_str (by rw [e1.out]), rfl⟩
    · have e1 := box (show ofG s = ⟨#[]⟩ by unfold ofG; rw [h0, g0]; rfl)
      have z6 := s6 g1
      rw [c6 g1] at g2
      clear s7 s6 c7 c6 h0 g0
      go_enter Tryz.func60, Tryz.ntmps60
      go_wp2_with (first | (go_at_call 89; refine (rHas_any _ _ _ hs (by decide)).mono ?_; rintro e w' ⟨rfl, rfl⟩) | (go_at_call 30; refine (rGroup_any _ _ (by assumption)).mono ?_; rintro e w' ⟨rfl, rfl⟩))
      go_ret
      exact ⟨ret_str (by rw [e1.out]), rfl⟩
    · have e1 := box (show ofG s = s.extract 6 s.size by unfold ofG; rw [h0, g0, c6 g1]; rfl)
      have z6 := s6 g1
      rw [c6 g1] at g2
      clear s7 s6 c7 c6 h0 g0
      go_enter Tryz.func60, Tryz.ntmps60
      go_wp2_with (first | (go_at_call 89; refine (rHas_any _ _ _ hs (by decide)).mono ?_; rintro e w' ⟨rfl, rfl⟩) | (go_at_call 30; refine (rGroup_any _ _ (by assumption)).mono ?_; rintro e w' ⟨rfl, rfl⟩))
      go_ret
      exact ⟨ret_str (by rw [e1.out]), rfl⟩
  · have z7 := s7 h1
    have e1 := box (show ofG s = s.extract 7 s.size by unfold ofG; rw [h0, c7 h1]; rfl)
    rw [c7 h1] at h2
    clear s7 s6 c7 c6 h0
    go_enter Tryz.func60, Tryz.ntmps60
    go_wp2_with (first | (go_at_call 89; refine (rHas_any _ _ _ hs (by decide)).mono ?_; rintro e w' ⟨rfl, rfl⟩) | (go_at_call 30; refine (rGroup_any _ _ (by assumption)).mono ?_; rintro e w' ⟨rfl, rfl⟩))
    go_ret
    exact ⟨ret_str (by rw [e1.out]), rfl⟩

theorem ofOk_iff (s : ByteArray) : ofOk s = !decide ((ofG s).size = 0) := by
  have hg : ∀ x : ByteArray, groupB x = true → x.size ≠ 0 := by
    intro x h hz
    unfold groupB groupL plainL at h
    simp [hz] at h
  unfold ofOk ofG
  cases h1 : hitS s retryC
  · cases h2 : hitS s deadC
    · rfl
    · have : groupB (cutS s deadC) = true := by unfold hitS at h2; simp at h2; exact h2.2
      simp [hg _ this]
  · have : groupB (cutS s retryC) = true := by unfold hitS at h1; simp at h1; exact h1.2
    simp [hg _ this]

set_option maxHeartbeats 1000000 in
theorem rTopic_any (s : ByteArray) (w : World) (hs : s.size ≤ maxLen) :
    Calls Tryz.prog 31 #[.string s] w fun e w' => e = .returned (.bool (topicB s)) ∧ w = w' := by
  have hi := isEmpty_iff (ofG s)
  have ho := ofOk_iff s
  cases hp : plainB s
  · have hg := box (show topicB s = !(ofG s).toList.isEmpty by unfold topicB; rw [hp, hi, Bool.or_false, ho])
    clear hi ho
    obtain ⟨g, hgg⟩ : ∃ g, ofG s = g := ⟨_, rfl⟩
    have hc := fun W => rOf_any s W hs
    rw [hgg] at hg
    simp only [hgg] at hc
    have Hc := box hc
    clear hc hgg
    go_enter Tryz.func31, Tryz.ntmps31
    go_wp2_with (first | (go_at_call 59; refine (rPlain_any _ _ hs).mono ?_; rintro e w' ⟨rfl, rfl⟩) | (go_at_call 60; refine (Hc.out _).mono ?_; rintro e w' ⟨rfl, rfl⟩))
    go_ret
    exact ⟨ret_bool (by rw [hg.out]), rfl⟩
  · have hg := box (show topicB s = true by unfold topicB; rw [hp]; simp)
    clear hi ho
    go_enter Tryz.func31, Tryz.ntmps31
    go_wp2_with (first | (go_at_call 59; refine (rPlain_any _ _ hs).mono ?_; rintro e w' ⟨rfl, rfl⟩) )
    go_ret
    exact ⟨ret_bool (by rw [hg.out]), rfl⟩

/-! ### All -/
theorem allP_snoc (l : List ByteArray) (k : Nat) (hk : k < l.length) (p : ByteArray → Bool) : (l.take (k + 1)).all p = ((l.take k).all p && p (l.getD k ByteArray.empty)) := by
  rw [List.take_succ_eq_append_getElem hk, List.all_append]; simp [List.getD_eq_getElem?_getD, List.getElem?_eq_getElem hk]
theorem allP_no (l : List ByteArray) (k : Nat) (hk : k < l.length) (p : ByteArray → Bool) (h : p (l.getD k ByteArray.empty) = false) : l.all p = false := by
  rw [List.all_eq_false]
  exact ⟨l[k], List.getElem_mem _, by simpa [List.getD_eq_getElem?_getD, List.getElem?_eq_getElem hk] using h⟩

end Go.Proofs.YtafdfmdcnniccaaGreat.nm
