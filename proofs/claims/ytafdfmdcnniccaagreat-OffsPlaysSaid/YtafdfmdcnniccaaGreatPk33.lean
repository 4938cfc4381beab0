/- OffsPlays' walk. -/
import Derived.Test.YtafdfmdcnniccaaGreatRows
import Derived.WalkKit
import Derived.ProofKit
import Derived.OpenShut
import Derived.Handy
import Derived.Deep.LoopGhost
import Derived.Lib.Hide
import Derived.Lib.Strings
import Derived.SizedLaws
import Derived.Maps.Own
import Derived.Maps.OwnOps
import Derived.Maps.OwnSet
import Derived.Maps.RangeWalk
import Derived.Deep.QuietTactic
import Derived.BigQuiet
import Derived.Deep.RegionHeld3
import Derived.Lib.ConvBytes
import Derived.Lib.AppendZeros
import Derived.Lib.AppendZerosOnto
import Derived.Lib.LazyBuf
import Derived.Shelf.Abstract
import Derived.LaidEql
import Derived.Lib.SliceRun
import Derived.StillTailTactics
import Derived.Deep.Slices
import Derived.Outline
import Derived.Laws.Cover1
import Derived.Deep.RegionLaw
import Derived.Deep.DeepCutAuto
import Derived.Deep.CutBlock
import Derived.Shelf.SlicesE.Clone
import Derived.Ground.SlgnProg
import Derived.Test.YtafdfmdcnniccaaGreatProg
import Derived.Shelf.Strings.Builder1
import Derived.Shelf.Small.Bits
import Derived.Shelf.Small.Wraps
import Derived.Shelf.Strings.BuilderF
import Derived.Shelf.Strings.BuilderK
import Derived.Shelf.Strconv.Itoa0
import Derived.Shelf.Sort.Plain
import Derived.Shelf.GgClosure.StringsIndexFunc
import Derived.Ground.GgwProg
import Derived.Shelf.GgClosure.StringsIndexFuncTop
import Derived.Shelf.GgClosure.StringsRunes
import Derived.Shelf.Strings.Prefix
import Derived.Shelf.Strings.BuilderCap
import Derived.Ground.Names2Prog
import Derived.Shelf.Slices.SearchI
import Derived.Shelf.Slices.In.SortNone
import Derived.Ground.SlgfProg
import Derived.Shelf.SlicesE.IndexFunc
import Derived.Shelf.SlicesE.DeleteFunc
import Derived.Lib.DecodeN
import Derived.Lib.Overlaps
import Derived.Laws.CopyOwn
import Derived.Laws.MakeOwn
import Derived.Lib.Builder
import Derived.Lib.AppendStr
import Derived.Laws.Rows
import Derived.Shelf.SlIter.Nil
import Derived.Ground.GgzProg
import Derived.Shelf.SortM.Plain
import Derived.Shelf.SortM.SortNone
import Derived.Ground.SlgmProg
import Derived.Laws.BitsLemmas
import Derived.Laws.ResultCell
import Derived.Laws.StructEq
import Derived.Laws.Cover3
import Derived.OwnWalk
import Derived.Deep.Upon
import Derived.Deep.CutRange
import Derived.Test.YtafdfmdcnniccaaGreatPk32
namespace Go.Proofs.YtafdfmdcnniccaaGreat.oplay
open Go.ChangeShapes Go.WideShapes Go.ChangeAt Go.RowKit
open Go.Proofs.YtafdfmdcnniccaaGreat.dk Go.Proofs.YtafdfmdcnniccaaGreat.nm Go.Proofs.YtafdfmdcnniccaaGreat.tp Go.Proofs.YtafdfmdcnniccaaGreat.ofs

theorem RowsAt.opps {w : World} {v : Value} {l : List OpP} (h : RowsAt OpPR 8 w v l) : ∃ a cap, v = .slice a l.length cap ∧ l.length ≤ maxLen ∧ ∀ i (hi : i < l.length), ∃ b off kv, a = some ⟨b, off, none⟩ ∧ b < w.heap.size ∧ OpIn w kv l[i] ∧
    ∀ j u, (opA l[i] kv)[j]? = some u → w.cell? ⟨b, off + i * 8 + j, none⟩ = some u := by
  obtain ⟨a, cap, rfl, h2, h3, h4⟩ := h
  refine ⟨a, cap, rfl, by omega, fun i hi => ?_⟩
  obtain ⟨b, off, cs, e, hb, hl, hcell, kv, hr, hm⟩ := h4 i hi
  subst hr
  refine ⟨b, off, kv, e, hb, hm, fun j u hj => ?_⟩
  have hj8 : j < 8 := (Array.getElem?_eq_some_iff.1 hj).1
  have := hcell j (by simpa [opA] using hj8)
  rw [this]
  rw [Array.getElem?_eq_getElem (by simpa [opA] using hj8)] at hj
  cases hj
  simp
/-- What stands at a round's begin. -/
structure PlS (W : World) (k p o : Nat) (lst SL N NL : List OffS) (D : DiskS) (F : Nat → Prop) (v nv lv : Value) (w : World) : Prop where
  st : OfS W k p o D lst w F v
  fit : Fit D
  file : FileO D SL
  good : GoodL SL
  now : ofs.Alike N lst
  lasts : ofs.Alike NL SL
  rn : offRow W.heap.size w nv N
  rl : offRow W.heap.size w lv NL
  an : ∀ g, nv.ownBlock = some g → v.ownBlock ≠ some g
  al : ∀ g, lv.ownBlock = some g → v.ownBlock ≠ some g
def PlR (W : World) (k p o : Nat) (nv lv : Value) (w : World) : Prop := ∃ lst SL N NL D F v, PlS W k p o lst SL N NL D F v nv lv w
theorem PlS.calm {W w w' : World} {k p o : Nat} {lst SL N NL : List OffS} {D : DiskS} {F : Nat → Prop} {v nv lv : Value} (h : PlS W k p o lst SL N NL D F v nv lv w) (hc : Calm w w') : PlS W k p o lst SL N NL D F v nv lv w' :=
  ⟨h.st.calm hc, h.fit, h.file, h.good, h.now, h.lasts, own_calm h.rn hc, own_calm h.rl hc, h.an, h.al⟩
/-- .. behind a Set, ahead of the law's own list. -/
structure PlH (W : World) (k p o : Nat) (cur M SL N NL : List OffS) (D : DiskS) (F : Nat → Prop) (v nv lv : Value) (w : World) : Prop where
  st : OfS W k p o D cur w F v
  fit : Fit D
  file : FileO D SL
  good : GoodL SL
  now : ofs.Alike N M
  lasts : ofs.Alike NL SL
  rn : offRow W.heap.size w nv N
  rl : offRow W.heap.size w lv NL
  an : ∀ g, nv.ownBlock = some g → v.ownBlock ≠ some g
  al : ∀ g, lv.ownBlock = some g → v.ownBlock ≠ some g
section
variable {W w w' : World} {k p o : Nat} {lst cur M SL N NL : List OffS} {D : DiskS} {F : Nat → Prop} {v nv lv : Value}
theorem PlH.calm (h : PlH W k p o cur M SL N NL D F v nv lv w) (hc : Calm w w') : PlH W k p o cur M SL N NL D F v nv lv w' :=
  ⟨h.st.calm hc, h.fit, h.file, h.good, h.now, h.lasts, own_calm h.rn hc, own_calm h.rl hc, h.an, h.al⟩
theorem PlH.whole (h : PlH W k p o cur M SL N NL D F v nv lv w) {nv' : Value} {N' : List OffS} (ha : ofs.Alike N' cur) (hr : offRow W.heap.size w nv' N') (hx : ∀ g, nv'.ownBlock = some g → v.ownBlock ≠ some g) : PlS W k p o cur SL N' NL D F v nv' lv w :=
  ⟨h.st, h.fit, h.file, h.good, ha, h.lasts, hr, h.rl, hx, h.al⟩
theorem PlS.set (h : PlS W k p o lst SL N NL D F v nv lv w) (x : OffS) :
    Calls Tryz.prog 9 #[ptrTo o, .agg (offA x)] w fun e w' => e = .returned (.int .i64 (setC lst x)) ∧ (∃ v', PlH W k p o (setL lst x) lst SL N NL D F v' nv lv w') ∧ ∀ (b : Nat) (cur : Array Value), w.heap[b]? = some (Obj.cells cur 43 (0, 0)) → w'.heap[b]? = some (Obj.cells cur 43 (0, 0)) := by
  refine (P_set h.st x).mono ?_
  rintro e w' ⟨rfl, ⟨v', h1, h2⟩, hk⟩
  refine ⟨rfl, ⟨v', h1, h.fit, h.file, h.good, h.now, h.lasts, hk.row _ _ _ h.rn (fun g hg e => h.an g hg e), hk.row _ _ _ h.rl (fun g hg e => h.al g hg e), fun g hg e => ?_, fun g hg e => ?_⟩, hk.op⟩
  · rcases h2 g e with h3 | h3
    · exact h.an g hg h3
    · have := (h.rn.lt g hg).2; omega
  · rcases h2 g e with h3 | h3
    · exact h.al g hg h3
    · have := (h.rl.lt g hg).2; omega
theorem PlS.disk {D' : DiskS} {F' : Nat → Prop} {k' : Nat} (h : PlS W k p o lst SL N NL D F v nv lv w) (h1 : OfS W k' p o D' lst w' F' v) (h2 : Fit D') (h3 : FileO D' SL) (hk : KeepR none w w') : PlS W k' p o lst SL N NL D' F' v nv lv w' :=
  ⟨h1, h2, h3, h.good, h.now, h.lasts, hk.row _ _ _ h.rn (fun g _ e => by cases e), hk.row _ _ _ h.rl (fun g _ e => by cases e), h.an, h.al⟩
theorem PlS.lays {D' : DiskS} {F' : Nat → Prop} {k' : Nat} (h : PlS W k p o lst SL N NL D F v nv lv w) (h1 : OfS W k' p o D' lst w' F' v) (h2 : Fit D') (h3 : FileO D' lst) (hk : KeepR none w w') : PlS W k' p o lst lst N N D' F' v nv nv w' :=
  ⟨h1, h2, h3, h.st.good, h.now, h.now, hk.row _ _ _ h.rn (fun g _ e => by cases e), hk.row _ _ _ h.rn (fun g _ e => by cases e), h.an, h.an⟩
end

set_option maxRecDepth 100000 in
set_option maxHeartbeats 60000000 in
theorem walk (W : World) (v : Value) (l : List OpP) (r : RowsAt OpPR 8 W v l) :
    Calls Tryz.prog 4 #[v] W fun e W' => e = .returned (.bool true) ∧ Calm W W' := by
  obtain ⟨a, cap, rfl, hml, hel⟩ := oplay.RowsAt.opps r
  have Hel := box hel
  clear hel r
  unfold maxLen at hml
  go_enter Tryz.func4, Tryz.ntmps4
  go_wp2_with fail
  refine (ofs.awake_any _).mono ?_
  rintro e w1 ⟨rfl, hca⟩
  have O1 := box ((Owns.refl W).calm' hca)
  clear hca
  by_cases h100 : 100 < l.length
  · go_wp2_with fail
    go_ret
    exact ⟨rfl, O1.out.calm⟩
  have hn : l.length ≤ 100 := by omega
  go_wp2_with fail
  refine (New_ok _ 65536).mono ?_
  rintro e w2 ⟨p, F, rfl, h2, hc2, hF2⟩
  have H2 := box h2
  have O2 := box (O1.out.new hc2 hF2)
  clear h2 hc2 hF2 hml h100
  go_wp2_with fail
  refine (Open_of w2 H2.out (by decide) (by decide)).mono ?_
  rw [new_open]
  rintro e w3 ⟨hc3, o, v0, rfl, hO, ho⟩
  have HS0 := box (show PlR W 0 p o (.slice none 0 0) (.slice none 0 0) w3 from ⟨[], [], [], [], dk.new 65536, F, v0, ⟨⟨H2.out.calm hc3, ⟨hO.at_, row_base (row_zero hO.row) (fun g hg => Nat.le_trans O2.out.calm.size (hO.row.lt g hg).1), hO.few, hO.rising, hO.ok⟩, O2.out.calm' hc3, Nat.le_trans O2.out.calm.size ho⟩,
    ⟨by decide, fun f hf => by cases hf⟩, FileO.new _, GoodL.nil, ofs.Alike.self List.Pairwise.nil, ofs.Alike.self List.Pairwise.nil, World.ownsRow_nil _ _ _ _, World.ownsRow_nil _ _ _ _, (fun g hg => by cases hg), (fun g hg => by cases hg)⟩⟩)
  clear hc3 hO ho H2 O1 O2
  go_wp2_with fail
  go_loopw [4, 6, 7, 8, 34] (fun ov nv lv mv iv wr => ∃ (k d o : Nat) (ma : Option Addr) (mn mc : Nat), k ≤ l.length ∧ d ≤ k ∧ iv = .int .i64 k ∧ ov = ptrTo o ∧ mv = .slice ma mn mc ∧ Box (PlR W d p o nv lv wr)) (fun _ _ _ _ iv _ => l.length - (intOf iv).toNat)
  case atStart => exact ⟨0, 0, o, none, 0, 0, Nat.zero_le _, Nat.le_refl _, rfl, rfl, rfl, HS0⟩
  case round =>
    clear HS0
    rename_i nv0 lv0 _ _
    obtain ⟨k, d, o, ma, mn, mc, hk, hd, rfl, rfl, rfl, HB⟩ := hrel
    obtain ⟨lst, SL, N, NL, D, F, v, hS⟩ := HB.out
    have HS := box hS
    clear HB hS
    obtain ⟨wo, hwo⟩ : ∃ wo : World, wo = wr := ⟨_, rfl⟩
    subst hwo
    obtain ⟨na, nc, hnv, _⟩ := offRow.offs HS.out.rn
    obtain ⟨la, lc, hlv, _⟩ := offRow.offs HS.out.rl
    subst hnv
    subst hlv
    by_cases hlt : k < l.length
    · obtain ⟨lb, loff, kv, rfl, hlb, hop, hcell⟩ := Hel.out k hlt
      obtain ⟨⟨pk, pn, ⟨xg, xt, xq, xa⟩, keep, lack⟩, hx⟩ : ∃ z, l[k] = z := ⟨_, rfl⟩
      rw [hx] at hop hcell
      obtain ⟨ka, kcap, rfl, hkc, _⟩ := RowsAt_bools hop.keep
      have Hop := box hop
      have hcw := HS.out.st.owns.calm
      have d0 := (hcw.cell (p := ⟨lb, loff + k * 8 + 0, none⟩) hlb).trans (hcell 0 (.int .i64 pk) rfl)
      have d1 := (hcw.cell (p := ⟨lb, loff + k * 8 + 1, none⟩) hlb).trans (hcell 1 (.int .i64 pn) rfl)
      have d2 := (hcw.cell (p := ⟨lb, loff + k * 8 + 2, none⟩) hlb).trans (hcell 2 (.string xg) rfl)
      have d3 := (hcw.cell (p := ⟨lb, loff + k * 8 + 3, none⟩) hlb).trans (hcell 3 (.string xt) rfl)
      have d4 := (hcw.cell (p := ⟨lb, loff + k * 8 + 4, none⟩) hlb).trans (hcell 4 (.int .i64 xq) rfl)
      have d5 := (hcw.cell (p := ⟨lb, loff + k * 8 + 5, none⟩) hlb).trans (hcell 5 (.int .i64 xa) rfl)
      have d6 := (hcw.cell (p := ⟨lb, loff + k * 8 + 6, none⟩) hlb).trans (hcell 6 (.slice ka keep.length kcap) rfl)
      have d7 := (hcw.cell (p := ⟨lb, loff + k * 8 + 7, none⟩) hlb).trans (hcell 7 (.int .i64 lack) rfl)
      have hlbo := Nat.lt_of_lt_of_le hlb hcw.size
      simp only [Nat.add_zero] at d0 d1 d2 d3 d4 d5 d6 d7
      have Ha := box ((Calm.refl wo).alloc (.cells #[.int .i64 pk, .int .i64 pn, .string xg, .string xt, .int .i64 xq, .int .i64 xa, .slice ka keep.length kcap, .int .i64 lack] 43))
      have Hnew := box (heap_new wo (.cells #[.int .i64 pk, .int .i64 pn, .string xg, .string xt, .int .i64 xq, .int .i64 xa, .slice ka keep.length kcap, .int .i64 lack] 43))
      clear hx hcell hop hcw
      by_cases hbig : 100 < xg.size
      · go_wp2_with fail
        go_ret
        exact ⟨rfl, Calm.trans HS.out.st.owns.calm Ha.out⟩
      by_cases hbig2 : 100 < xt.size
      · go_wp2_with fail
        go_ret
        exact ⟨rfl, Calm.trans HS.out.st.owns.calm Ha.out⟩
      by_cases hbig3 : 100 < keep.length
      · go_wp2_with fail
        go_ret
        exact ⟨rfl, Calm.trans HS.out.st.owns.calm Ha.out⟩
      go_upto_block 2 with fail
      go_cut [4, 6, 7, 8, 34] from 34 to 203 (fun ov nv lv mv iv wx => iv = .int .i64 k ∧ ∃ (d' o' : Nat) (ma : Option Addr) (mn mc : Nat), d' ≤ k + 1 ∧ ov = ptrTo o' ∧ mv = .slice ma mn mc ∧ Box (PlR W d' p o' nv lv wx) ∧ Box (wx.heap[wo.heap.size]? = some (Obj.cells #[.int .i64 pk, .int .i64 pn, .string xg, .string xt, .int .i64 xq, .int .i64 xa, .slice ka keep.length kcap, .int .i64 lack] 43 (0, 0))))
      case first =>
        obtain ⟨wd, hwd⟩ : ∃ wd, wo.alloc (.cells #[.int .i64 pk, .int .i64 pn, .string xg, .string xt, .int .i64 xq, .int .i64 xa, .slice ka keep.length kcap, .int .i64 lack] 43) = wd := ⟨_, rfl⟩
        rw [hwd] at Ha Hnew
        have HSd := box (HS.out.calm Ha.out)
        clear d0 d1 d2 d3 d4 d5 d6 d7
        have c0 := cell_of Hnew.out 0
        have c1 := cell_of Hnew.out 1
        have c2 := cell_of Hnew.out 2
        have c3 := cell_of Hnew.out 3
        have c4 := cell_of Hnew.out 4
        have c5 := cell_of Hnew.out 5
        have c6 := cell_of Hnew.out 6
        have c7 := cell_of Hnew.out 7
        have clt := heap_lt Hnew.out
        by_cases hk0 : pk = 0
        · as_aux_lemma =>
          subst hk0
          have hri := box (show Calls Tryz.prog _ #[.agg #[.string xg, .string xt, .int .i64 xq, .int .i64 xa]] wd _ from rightW_any ⟨xg, xt, xq, xa⟩ wd ⟨by simp only; omega, by simp only; omega⟩)
          have hfnd := box (fun Wx (hc : Calm wd Wx) => (show Calls Tryz.prog _ #[.slice na N.length nc, .agg #[.string xg, .string xt, .int .i64 xq, .int .i64 xa]] Wx _ from find_any _ N ⟨xg, xt, xq, xa⟩ Wx (offRow.offs (HSd.out.calm hc).rn) (by have h1 := HSd.out.now.len; have h2 := HSd.out.st.ofs.few; omega)))
          have hcode := HSd.out.now.code HSd.out.st.good ⟨xg, xt, xq, xa⟩
          have hN64 : N.length ≤ 64 := by have h1 := HSd.out.now.len; have h2 := HSd.out.st.ofs.few; omega
          obtain ⟨r, hr⟩ : ∃ r, rightO ⟨xg, xt, xq, xa⟩ = r := ⟨_, rfl⟩
          rw [hr] at hri hcode
          have Hcode := box hcode
          clear hr hcode
          go_wp2_with fail
          refine hri.out.mono ?_
          rintro e w6 ⟨rfl, hc6⟩
          have HC6 := box hc6
          have Hx6 := box (heap_calm hc6 Hnew.out)
          clear c0 c1 c2 c3 c4 c5 c6 c7 clt
          clear hc6 hri
          have c2 := cell_of Hx6.out 2
          have c3 := cell_of Hx6.out 3
          have c4 := cell_of Hx6.out 4
          have c5 := cell_of Hx6.out 5
          have clt := heap_lt Hx6.out
          go_wp2_with fail
          refine (hfnd.out w6 HC6.out).mono ?_
          rintro e w7 ⟨hc7, hres⟩
          have HS7 := box (HSd.out.calm (HC6.out.trans hc7))
          have Hx7 := box (heap_calm hc7 Hx6.out)
          clear c2 c3 c4 c5 clt
          clear hc7 hfnd
          have c2 := cell_of Hx7.out 2
          have c3 := cell_of Hx7.out 3
          have c4 := cell_of Hx7.out 4
          have c5 := cell_of Hx7.out 5
          have clt := heap_lt Hx7.out
          have hset := HS7.out.set ⟨xg, xt, xq, xa⟩
          by_cases hr0 : r = 0
          · as_aux_lemma =>
            subst hr0
            rcases hres with ⟨hnone, rfl⟩ | ⟨j, hj, hsome, rfl⟩
            · as_aux_lemma =>
              by_cases h64 : N.length = 64
              · as_aux_lemma =>
                have hcd : setC lst ⟨xg, xt, xq, xa⟩ = 6 := by rw [Hcode.out, if_pos ⟨rfl, hnone, h64⟩]
                have h64b : ((N.length : Int) == 64) = true := beq_iff_eq.2 (by omega)
                have H64 := box h64
                clear h64
                rw [hcd] at hset
                have Hset := box (show Calls Tryz.prog _ #[ptrTo o, .agg #[.string xg, .string xt, .int .i64 xq, .int .i64 xa]] w7 _ from hset)
                clear hset
                go_wp2_with fail
                refine Hset.out.mono ?_
                rintro e w8 ⟨rfl, ⟨v8, h8⟩, hop8⟩
                have H8 := box h8
                have Hx8 := box (hop8 _ _ Hx7.out)
                clear h8 hop8 Hset
                have hL : setL lst ⟨xg, xt, xq, xa⟩ = lst := by unfold setL; rw [hcd, if_neg (by decide)]
                go_wp2_with fail
                go_meet
                exact ⟨rfl, d, o, ma, mn, mc, by omega, rfl, rfl, box ⟨lst, SL, N, NL, D, F, v8, by have h := H8.out; rw [hL] at h; exact h.whole h.now h.rn h.an⟩, Hx8⟩
              · as_aux_lemma =>
                have hcd : setC lst ⟨xg, xt, xq, xa⟩ = 0 := by rw [Hcode.out, if_neg (fun h => h64 h.2.2)]
                have h64b : ((N.length : Int) == 64) = false := beq_eq_false_iff_ne.2 (by omega)
                rw [hcd] at hset
                have Hset := box (show Calls Tryz.prog _ #[ptrTo o, .agg #[.string xg, .string xt, .int .i64 xq, .int .i64 xa]] w7 _ from hset)
                clear hset
                go_wp2_with fail
                refine Hset.out.mono ?_
                rintro e w8 ⟨rfl, ⟨v8, h8⟩, hop8⟩
                have H8 := box h8
                have Hx8 := box (hop8 _ _ Hx7.out)
                clear h8 hop8 Hset
                clear c2 c3 c4 c5 clt
                have c2 := cell_of Hx8.out 2
                have c3 := cell_of Hx8.out 3
                have c4 := cell_of Hx8.out 4
                have c5 := cell_of Hx8.out 5
                have clt := heap_lt Hx8.out
                obtain ⟨cv, w9, happ, hrow9, hk9, hg9⟩ := append_clone W.heap.size (w8.alloc (.cells #[] 31)) w8.heap.size (.slice na N.length nc) N (heap_new w8 _) H8.out.st.owns.calm.size (row_zero (own_calm H8.out.rn ((Calm.refl w8).alloc _))) (by omega) 22
                obtain ⟨cva, cvc, hcv, _⟩ := offRow.offs hrow9
                subst hcv
                have HC9 := box (show Calm w8 w9 from Below.trans ((Calm.refl w8).alloc (.cells #[] 31)) (hk9.below ((Calm.refl w8).alloc (.cells #[] 31)).size (fun g e => by omega)))
                have Hg9 := box (show ∀ g, (Value.slice cva N.length cvc).ownBlock = some g → w8.heap.size ≤ g from fun g hg => by
                  rcases hg9 g hg with h | h
                  · omega
                  · exact Nat.le_trans ((Calm.refl w8).alloc (.cells #[] 31)).size h)
                have Happ := box happ
                have Hrow9 := box hrow9
                clear happ hrow9 hk9 hg9
                have Hx9 := box (heap_calm HC9.out Hx8.out)
                clear c2 c3 c4 c5 clt
                have c2 := cell_of Hx9.out 2
                have c3 := cell_of Hx9.out 3
                have c4 := cell_of Hx9.out 4
                have c5 := cell_of Hx9.out 5
                have clt := heap_lt Hx9.out
                obtain ⟨dv, w10, happ2, hrow10, hk10, hg10⟩ := append_off W.heap.size (w9.alloc (.cells #[.string xg, .string xt, .int .i64 xq, .int .i64 xa] 31)) (.slice cva N.length cvc) N ⟨xg, xt, xq, xa⟩ w9.heap.size (own_calm Hrow9.out ((Calm.refl w9).alloc _)) (heap_new w9 _) (Nat.le_trans H8.out.st.owns.calm.size (Nat.le_trans HC9.out.size ((Calm.refl w9).alloc (.cells #[.string xg, .string xt, .int .i64 xq, .int .i64 xa] 31)).size)) (by omega) 22
                obtain ⟨dva, dvc, hdv, _⟩ := offRow.offs hrow10
                have hdl : (N ++ [(⟨xg, xt, xq, xa⟩ : OffS)]).length = N.length + 1 := by rw [List.length_append, List.length_singleton]
                rw [hdl] at hdv
                subst hdv
                have HC10 := box (show Calm w8 w10 from Below.trans (HC9.out.trans ((Calm.refl w9).alloc (.cells #[.string xg, .string xt, .int .i64 xq, .int .i64 xa] 31))) (hk10.below (Nat.le_trans HC9.out.size ((Calm.refl w9).alloc (.cells #[.string xg, .string xt, .int .i64 xq, .int .i64 xa] 31)).size) (fun g e => Hg9.out g e)))
                have Hg10 := box (show ∀ g, (Value.slice dva (N.length + 1) dvc).ownBlock = some g → w8.heap.size ≤ g from fun g hg => by
                  rcases hg10 g hg with h | h
                  · exact Hg9.out g h
                  · exact Nat.le_trans HC9.out.size (Nat.le_trans ((Calm.refl w9).alloc (.cells #[.string xg, .string xt, .int .i64 xq, .int .i64 xa] 31)).size h))
                have Happ2 := box happ2
                have Hrow10 := box hrow10
                have Hal := box (HS7.out.now.put HS7.out.st.good hcd hnone)
                clear happ2 hrow10 hk10 hg10 hdl
                go_wp2_with (first | (at_builtin; refine Lib.wpList_append_run _ rfl _ _ _ _ rfl _ _ rfl rfl _ _ Happ.out ?_) | (at_builtin; refine Lib.wpList_append_run _ rfl _ _ _ _ rfl _ _ rfl rfl _ _ Happ2.out ?_) | fail)
                go_meet
                exact ⟨rfl, d, o, ma, mn, mc, by omega, rfl, rfl, box ⟨_, SL, _, NL, D, F, v8, (H8.out.calm HC10.out).whole Hal.out Hrow10.out (fun g hg e => by have := (H8.out.st.ofs.row.lt g e).2; have := Hg10.out g hg; omega)⟩, box (heap_calm HC10.out Hx8.out)⟩
            · as_aux_lemma =>
              have hcd : setC lst ⟨xg, xt, xq, xa⟩ = 0 := by rw [Hcode.out, if_neg (fun h => by rw [hsome] at h; exact absurd h.2.1 (by simp))]
              rw [hcd] at hset
              have Hset := box (show Calls Tryz.prog _ #[ptrTo o, .agg #[.string xg, .string xt, .int .i64 xq, .int .i64 xa]] w7 _ from hset)
              clear hset
              go_wp2_with fail
              refine Hset.out.mono ?_
              rintro e w8 ⟨rfl, ⟨v8, h8⟩, hop8⟩
              have H8 := box h8
              have Hx8 := box (hop8 _ _ Hx7.out)
              clear h8 hop8 Hset
              clear c2 c3 c4 c5 clt
              have c2 := cell_of Hx8.out 2
              have c3 := cell_of Hx8.out 3
              have c4 := cell_of Hx8.out 4
              have c5 := cell_of Hx8.out 5
              have clt := heap_lt Hx8.out
              obtain ⟨cv, w9, happ, hrow9, hk9, hg9⟩ := append_clone W.heap.size (w8.alloc (.cells #[] 31)) w8.heap.size (.slice na N.length nc) N (heap_new w8 _) H8.out.st.owns.calm.size (row_zero (own_calm H8.out.rn ((Calm.refl w8).alloc _))) (by omega) 22
              obtain ⟨cva, cvc, hcv, _⟩ := offRow.offs hrow9
              subst hcv
              have HC9 := box (show Calm w8 w9 from Below.trans ((Calm.refl w8).alloc (.cells #[] 31)) (hk9.below ((Calm.refl w8).alloc (.cells #[] 31)).size (fun g e => by omega)))
              have Hg9 := box (show ∀ g, (Value.slice cva N.length cvc).ownBlock = some g → w8.heap.size ≤ g from fun g hg => by
                rcases hg9 g hg with h | h
                · omega
                · exact Nat.le_trans ((Calm.refl w8).alloc (.cells #[] 31)).size h)
              have Happ := box happ
              have Hrow9 := box hrow9
              clear happ hrow9 hk9 hg9
              have Hx9 := box (heap_calm HC9.out Hx8.out)
              clear c2 c3 c4 c5 clt
              have c2 := cell_of Hx9.out 2
              have c3 := cell_of Hx9.out 3
              have c4 := cell_of Hx9.out 4
              have c5 := cell_of Hx9.out 5
              have clt := heap_lt Hx9.out
              rcases Hrow9.out.2 with ⟨_, hn0⟩ | ⟨g9, cap9, cur9, hv9, hb9, hg9, hnc9, hcm9, hcs9, htk9⟩
              · omega
              cases hv9
              have hkk : ∀ i, i < 4 → j * 4 + i < cur9.size := fun i hi => by rw [hcs9]; omega
              have e0 : w9.cell? ⟨g9, j * 4, none⟩ = some cur9[j * 4]! := by rw [cell_of hg9, getElem!_pos cur9 (j * 4) (hkk 0 (by omega))]; exact Array.getElem?_eq_getElem (hkk 0 (by omega))
              have e1 : w9.cell? ⟨g9, j * 4 + 1, none⟩ = some cur9[j * 4 + 1]! := by rw [cell_of hg9, getElem!_pos cur9 (j * 4 + 1) (hkk 1 (by omega))]; exact Array.getElem?_eq_getElem (hkk 1 (by omega))
              have e2 : w9.cell? ⟨g9, j * 4 + 2, none⟩ = some cur9[j * 4 + 2]! := by rw [cell_of hg9, getElem!_pos cur9 (j * 4 + 2) (hkk 2 (by omega))]; exact Array.getElem?_eq_getElem (hkk 2 (by omega))
              have e3 : w9.cell? ⟨g9, j * 4 + 3, none⟩ = some cur9[j * 4 + 3]! := by rw [cell_of hg9, getElem!_pos cur9 (j * 4 + 3) (hkk 3 (by omega))]; exact Array.getElem?_eq_getElem (hkk 3 (by omega))
              have f0 := free_of hg9 (j * 4)
              have f1 := free_of hg9 (j * 4 + 1)
              have f2 := free_of hg9 (j * 4 + 2)
              have f3 := free_of hg9 (j * 4 + 3)
              have glt := heap_lt hg9
              have hg98 := Hg9.out g9 rfl
              have Hal := box (HS7.out.now.turn HS7.out.st.good hcd hj hsome)
              have Hset4 := box (set4_row Hrow9.out hj ⟨xg, xt, xq, xa⟩)
              have HC10 := box (show Calm w8 (set4 w9 g9 (j * 4) ⟨xg, xt, xq, xa⟩) from (set4_keeps (Keeps.of_calm (F := fun _ => False) HC9.out) (.inr hg98) (j * 4) ⟨xg, xt, xq, xa⟩).below (Nat.le_refl _) (fun _ h => h.elim))
              have Hlen := box (show (N.take j ++ (⟨xg, xt, xq, xa⟩ : OffS) :: N.drop (j + 1)).length = N.length from by rw [List.length_append, List.length_cons, List.length_take, List.length_drop]; omega)
              clear hg9 hcs9 htk9 hkk hb9 hsome
              go_wp2_with (first | (at_builtin; refine Lib.wpList_append_run _ rfl _ _ _ _ rfl _ _ rfl rfl _ _ Happ.out ?_) | fail)
              go_meet
              exact ⟨rfl, d, o, ma, mn, mc, by omega, rfl, rfl, box ⟨_, SL, _, NL, D, F, v8, (H8.out.calm HC10.out).whole Hal.out (Hset4.out) (fun g hg e => by cases hg; have := (H8.out.st.ofs.row.lt g9 e).2; omega)⟩, box (heap_calm HC10.out Hx8.out)⟩
          · as_aux_lemma =>
            have hne : (r == 0) = false := beq_eq_false_iff_ne.2 hr0
            have hne2 : (r != 0) = true := by simp [bne, hne]
            have hcd : setC lst ⟨xg, xt, xq, xa⟩ = r := by rw [Hcode.out, if_neg (fun h => hr0 h.1)]
            rcases hres with ⟨hnone, rfl⟩ | ⟨j, hj, hsome, rfl⟩
            · as_aux_lemma =>
              clear hnone
              rw [hcd] at hset
              have Hset := box (show Calls Tryz.prog _ #[ptrTo o, .agg #[.string xg, .string xt, .int .i64 xq, .int .i64 xa]] w7 _ from hset)
              clear hset
              go_wp2_with fail
              refine Hset.out.mono ?_
              rintro e w8 ⟨rfl, ⟨v8, h8⟩, hop8⟩
              have H8 := box h8
              have Hx8 := box (hop8 _ _ Hx7.out)
              clear h8 hop8 Hset
              have hL : setL lst ⟨xg, xt, xq, xa⟩ = lst := by unfold setL; rw [hcd, if_neg (by exact hr0)]
              go_wp2_with fail
              go_meet
              exact ⟨rfl, d, o, ma, mn, mc, by omega, rfl, rfl, box ⟨lst, SL, N, NL, D, F, v8, by have h := H8.out; rw [hL] at h; exact h.whole h.now h.rn h.an⟩, Hx8⟩
            · as_aux_lemma =>
              clear hsome
              rw [hcd] at hset
              have Hset := box (show Calls Tryz.prog _ #[ptrTo o, .agg #[.string xg, .string xt, .int .i64 xq, .int .i64 xa]] w7 _ from hset)
              clear hset
              go_wp2_with fail
              refine Hset.out.mono ?_
              rintro e w8 ⟨rfl, ⟨v8, h8⟩, hop8⟩
              have H8 := box h8
              have Hx8 := box (hop8 _ _ Hx7.out)
              clear h8 hop8 Hset
              have hL : setL lst ⟨xg, xt, xq, xa⟩ = lst := by unfold setL; rw [hcd, if_neg (by exact hr0)]
              go_wp2_with fail
              go_meet
              exact ⟨rfl, d, o, ma, mn, mc, by omega, rfl, rfl, box ⟨lst, SL, N, NL, D, F, v8, by have h := H8.out; rw [hL] at h; exact h.whole h.now h.rn h.an⟩, Hx8⟩
        have hkb0 : (pk == 0) = false := beq_eq_false_iff_ne.2 hk0
        by_cases hk1 : pk = 1
        · as_aux_lemma =>
          subst hk1
          have hdown := box (fun (D' : DiskS) (F' : Nat → Prop) (k' : Nat) (Wx : World) (hD : DiskOk Wx p D' F' k') => Down_any Wx hD.lies)
          obtain ⟨dn, hdn⟩ : ∃ dn, D.down = dn := ⟨_, rfl⟩
          have hd0 := hdown.out D F d wd HSd.out.st.disk
          rw [hdn] at hd0
          have Hd0 := box hd0
          have Hdn := box hdn
          clear hd0 hdn
          go_wp2_with fail
          refine Hd0.out.mono ?_
          rintro e w6 ⟨rfl, rfl⟩
          go_wp2_with fail
          refine (P_flush HSd.out.st HSd.out.fit HSd.out.file (by omega)).mono ?_
          rintro e w7 ⟨c, D7, F7, rfl, h7, hF7, h3, hk7⟩
          have Hx7 := box (hk7.op _ _ Hnew.out)
          rcases h3 with ⟨rfl, _, hd7, hS7⟩ | ⟨rfl, hd7, hS7⟩
          · as_aux_lemma =>
            have H7 := box (HSd.out.lays h7 hF7 hS7 hk7)
            have hd1 := hdown.out D7 F7 (d + 1) w7 h7.disk
            rw [hd7] at hd1
            have Hd1 := box hd1
            clear h7 hF7 hS7 hk7 hd7 hd1 c0 c1 c2 c3 c4 c5 c6 c7 clt
            go_wp2_with fail
            refine Hd1.out.mono ?_
            rintro e w8 ⟨rfl, rfl⟩
            go_wp2_with fail
            go_meet
            exact ⟨rfl, d + 1, o, na, N.length, nc, by omega, rfl, rfl, box ⟨_, _, _, _, _, _, _, H7.out⟩, Hx7⟩
          · as_aux_lemma =>
            have H7 := box (HSd.out.disk h7 hF7 hS7 hk7)
            have hd1 := hdown.out D7 F7 (d + 1) w7 h7.disk
            rw [hd7] at hd1
            have Hd1 := box hd1
            clear h7 hF7 hS7 hk7 hd7 hd1 c0 c1 c2 c3 c4 c5 c6 c7 clt
            cases dn
            · as_aux_lemma =>
              go_wp2_with fail
              refine Hd1.out.mono ?_
              rintro e w8 ⟨rfl, rfl⟩
              go_wp2_with fail
              go_meet
              exact ⟨rfl, d + 1, o, na, N.length, nc, by omega, rfl, rfl, box ⟨_, _, _, _, _, _, _, H7.out⟩, Hx7⟩
            · as_aux_lemma =>
              go_wp2_with fail
              refine Hd1.out.mono ?_
              rintro e w8 ⟨rfl, rfl⟩
              go_wp2_with fail
              go_meet
              exact ⟨rfl, d + 1, o, ma, mn, mc, by omega, rfl, rfl, box ⟨_, _, _, _, _, _, _, H7.out⟩, Hx7⟩
        have hkb1 : (pk == 1) = false := beq_eq_false_iff_ne.2 hk1
        by_cases hk2 : pk = 2
        · as_aux_lemma =>
          subst hk2
          go_wp2_with fail
          refine (P_fuse HSd.out.st HSd.out.fit HSd.out.file pn Hop.out.n).mono ?_
          rintro e w7 ⟨rfl, h7, hF7, hS7, hk7⟩
          have Hx7 := box (hk7.op _ _ Hnew.out)
          have H7 := box (HSd.out.disk h7 hF7 hS7 hk7)
          clear h7 hF7 hS7 hk7 c0 c1 c2 c3 c4 c5 c6 c7 clt
          go_wp2_with fail
          go_meet
          exact ⟨rfl, d, o, ma, mn, mc, by omega, rfl, rfl, box ⟨_, _, _, _, _, _, _, H7.out⟩, Hx7⟩
        have hkb2 : (pk == 2) = false := beq_eq_false_iff_ne.2 hk2
        by_cases hk3 : pk = 3
        · as_aux_lemma =>
          subst hk3
          go_wp2_with fail
          refine (P_crash HSd.out.st HSd.out.fit HSd.out.file HSd.out.good (by omega) ka kcap keep lack Hop.out.keep (by omega)).mono ?_
          rintro e w7 ⟨rfl, ⟨D7, F7, h7, ho7, hF7, hS7, hop7, hz1, hz2⟩, hk7⟩
          have Hx7 := box (hk7.op _ _ Hnew.out)
          have Hrl7 := box (hk7.row _ _ _ HSd.out.rl (fun g _ e => by cases e))
          have H7 := box (And.intro h7 (And.intro ho7 (And.intro hF7 hS7)))
          have hopen := Open_of w7 h7 hz1 hz2
          rw [hop7] at hopen
          have Hopen := box hopen
          clear h7 ho7 hF7 hS7 hop7 hz1 hz2 hk7 hopen c0 c1 c2 c3 c4 c5 c6 c7 clt
          go_wp2_with fail
          refine Hopen.out.mono ?_
          rintro e w8 ⟨hc8, hx⟩
          simp only at hx
          obtain ⟨q, vq, rfl, hq, hqW⟩ := hx
          have HQ := box (show OfS W 0 p q D7 SL w8 F7 vq from ⟨H7.out.1.calm hc8, ⟨hq.at_, row_base (row_zero hq.row) (fun g hg => Nat.le_trans H7.out.2.1.calm.size (hq.row.lt g hg).1), hq.few, hq.rising, hq.ok⟩, H7.out.2.1.calm' hc8, Nat.le_trans H7.out.2.1.calm.size hqW⟩)
          have Hx8 := box (heap_calm hc8 Hx7.out)
          have Hrl8 := box (own_calm Hrl7.out hc8)
          clear hc8 hq hqW Hopen
          go_wp2_with fail
          refine (oAll_any _ HQ.out.ofs).mono ?_
          rintro e w9 ⟨va, rfl, hra, hca⟩
          have HQ9 := box (HQ.out.calm hca)
          have Hx9 := box (heap_calm hca Hx8.out)
          obtain ⟨aa, acap, rfl, _⟩ := hra.offs
          have hsm := same_any (.slice aa SL.length acap) (.slice la NL.length lc) SL NL w9 hra.offs (offRow.offs (own_calm Hrl8.out hca)) (by have := HSd.out.good.few; omega) (by have h1 := HSd.out.lasts.len; have h2 := HSd.out.good.few; omega)
          rw [HSd.out.lasts.same HSd.out.good.rising] at hsm
          have Hsm := box hsm
          clear hra hca hsm
          go_wp2_with fail
          refine Hsm.out.mono ?_
          rintro e w10 ⟨rfl, hca⟩
          have HQ10 := box (HQ9.out.calm hca)
          have Hx10 := box (heap_calm hca Hx9.out)
          clear hca Hsm
          go_wp2_with fail
          refine (oAll_any _ HQ10.out.ofs).mono ?_
          rintro e w11 ⟨vb, rfl, hrb, hcb⟩
          obtain ⟨ab, bcap, rfl, _⟩ := hrb.offs
          have HQ11 := box (HQ10.out.calm hcb)
          have Hx11 := box (heap_calm hcb Hx10.out)
          have hown : ∀ g, (Value.slice ab SL.length bcap).ownBlock = some g → vq.ownBlock ≠ some g := fun g hg e => by have h1 := (hrb.lt g hg).1; have h2 := (HQ10.out.ofs.row.lt g e).2; omega
          have Hrb := box (row_base (row_zero hrb) (fun g hg => Nat.le_trans HQ10.out.owns.calm.size (hrb.lt g hg).1))
          have HP := box (show PlS W 0 p q SL SL SL SL D7 F7 vq (.slice ab SL.length bcap) (.slice ab SL.length bcap) w11 from ⟨HQ11.out, H7.out.2.2.1, H7.out.2.2.2, HSd.out.good, ofs.Alike.self HSd.out.good.rising, ofs.Alike.self HSd.out.good.rising, Hrb.out, Hrb.out, hown, hown⟩)
          clear hrb hcb hown
          go_wp2_with fail
          go_meet
          exact ⟨rfl, 0, q, ab, SL.length, bcap, by omega, rfl, rfl, box ⟨_, _, _, _, _, _, _, HP.out⟩, Hx11⟩
        have hkb3 : (pk == 3) = false := beq_eq_false_iff_ne.2 hk3
        clear c1 c2 c3 c4 c5 c6 c7
        go_wp2_with fail
        go_meet
        exact ⟨rfl, d, o, ma, mn, mc, by omega, rfl, rfl, box ⟨_, _, _, _, _, _, _, HSd.out⟩, Hnew⟩
      case rest =>
        as_aux_lemma =>
        rename_i nv1 lv1 mv1
        obtain ⟨rfl, d1', o1, ma1, mn1, mc1, hd1, rfl, rfl, HB1, Hx1⟩ := hcut
        obtain ⟨lst1, SL1, N1, NL1, D1, F1, v1, hS1⟩ := HB1.out
        have HS1 := box hS1
        clear HB1 hS1 HS Hop Ha Hnew d0 d1 d2 d3 d4 d5 d6 d7
        obtain ⟨wq, hwq⟩ : ∃ wq : World, wq = wc := ⟨_, rfl⟩
        subst hwq
        obtain ⟨na1, nc1, hnv, _⟩ := offRow.offs HS1.out.rn
        obtain ⟨la1, lc1, hlv, _⟩ := offRow.offs HS1.out.rl
        subst hnv
        subst hlv
        have x2 := cell_of Hx1.out 2
        have x3 := cell_of Hx1.out 3
        have x4 := cell_of Hx1.out 4
        have x5 := cell_of Hx1.out 5
        have xlt := heap_lt Hx1.out
        have hN64 : N1.length ≤ 64 := by have h1 := HS1.out.now.len; have h2 := HS1.out.st.ofs.few; omega
        have hget := HS1.out.now.get ⟨xg, xt, xq, 0⟩
        have hkey : findO N1 ⟨xg, xt, xq, 0⟩ = findO N1 ⟨xg, xt, xq, xa⟩ := rfl
        rw [hkey] at hget
        have Hget := box hget
        have hfnd := box (show Calls Tryz.prog _ #[_, .agg #[.string xg, .string xt, .int .i64 xq, .int .i64 xa]] wq _ from find_any _ N1 ⟨xg, xt, xq, xa⟩ wq (offRow.offs HS1.out.rn) (by omega))
        clear hget hkey
        go_wp2_with fail
        refine hfnd.out.mono ?_
        rintro e w6 ⟨hc6, hres⟩
        have HC6 := box hc6
        have HS6 := box (HS1.out.calm hc6)
        have Hx6 := box (heap_calm hc6 Hx1.out)
        clear hc6 hfnd x2 x3 x4 x5 xlt
        rcases hres with ⟨hnone, rfl⟩ | ⟨j, hj, hsome, rfl⟩
        · as_aux_lemma =>
          have Hg := box (show getO lst1 ⟨xg, xt, xq, 0⟩ = 0 by rw [Hget.out, hnone])
          clear hnone Hget
          go_wp2_with fail
          refine (oAll_any _ HS6.out.st.ofs).mono ?_
          rintro e w8 ⟨va, rfl, hra, hca⟩
          have HS8 := box (HS6.out.calm hca)
          have Hra := box hra
          have Hx8 := box (heap_calm hca Hx6.out)
          obtain ⟨aa, acap, rfl, _⟩ := hra.offs
          have hsm := same_any (.slice aa lst1.length acap) _ lst1 N1 w8 hra.offs (offRow.offs HS8.out.rn) (by have := HS8.out.st.ofs.few; omega) (by omega)
          rw [HS8.out.now.same HS8.out.st.ofs.rising] at hsm
          have Hsm := box hsm
          clear hra hca hsm
          go_wp2_with fail
          refine Hsm.out.mono ?_
          rintro e w9 ⟨rfl, hc9⟩
          have HS9 := box (HS8.out.calm hc9)
          have Hx9 := box (heap_calm hc9 Hx8.out)
          clear hc9 Hsm
          go_wp2_with fail
          refine (oAll_any _ HS9.out.st.ofs).mono ?_
          rintro e w10 ⟨vc, rfl, hrc, hcc⟩
          have hri := rising_any vc lst1 w10 hrc.offs (by have := HS9.out.st.ofs.few; omega) HS9.out.st.ofs.rising
          obtain ⟨ac, ccap, rfl, _⟩ := hrc.offs
          have Hri := box hri
          have HS10 := box (HS9.out.calm hcc)
          have Hx10 := box (heap_calm hcc Hx9.out)
          clear hrc hcc hri
          go_wp2_with fail
          refine Hri.out.mono ?_
          rintro e w11 ⟨rfl, hcc⟩
          have HS11 := box (HS10.out.calm hcc)
          have hx11 := heap_calm hcc Hx10.out
          have x2 := cell_of hx11 2
          have x3 := cell_of hx11 3
          have x4 := cell_of hx11 4
          have xlt := heap_lt hx11
          have hge := Get_any xg xt xq w11 HS11.out.st.ofs
          rw [Hg.out] at hge
          have Hge := box hge
          clear hcc Hri hx11 hge
          go_wp2_with fail
          refine Hge.out.mono ?_
          rintro e w12 ⟨rfl, hcc⟩
          have HS12 := box (HS11.out.calm hcc)
          clear hcc Hge x2 x3 x4 xlt
          go_wp2_with fail
          go_roundw
          case rel => exact ⟨k + 1, d1', o1, ma1, mn1, mc1, by omega, hd1, by go_num, rfl, rfl, box ⟨lst1, SL1, N1, NL1, D1, F1, v1, HS12.out⟩⟩
          case measure => simp [intOf]; omega
        · as_aux_lemma =>
          obtain ⟨a2, cap2, he2, _, hcl2⟩ := offRow.offs HS6.out.rn
          cases he2
          obtain ⟨nb, no, rfl, hnb, _, _, _, e3⟩ := hcl2 j hj
          have Hg := box (show getO lst1 ⟨xg, xt, xq, 0⟩ = N1[j].at_ by rw [Hget.out, hsome])
          obtain ⟨at0, hat0⟩ : ∃ z, N1[j].at_ = z := ⟨_, rfl⟩
          rw [hat0] at e3 Hg
          clear hsome Hget hcl2 hat0
          go_wp2_with fail
          refine (oAll_any _ HS6.out.st.ofs).mono ?_
          rintro e w8 ⟨va, rfl, hra, hca⟩
          have HS8 := box (HS6.out.calm hca)
          have Hra := box hra
          have Hx8 := box (heap_calm hca Hx6.out)
          obtain ⟨aa, acap, rfl, _⟩ := hra.offs
          have hsm := same_any (.slice aa lst1.length acap) _ lst1 N1 w8 hra.offs (offRow.offs HS8.out.rn) (by have := HS8.out.st.ofs.few; omega) (by omega)
          rw [HS8.out.now.same HS8.out.st.ofs.rising] at hsm
          have Hsm := box hsm
          clear hra hca hsm
          go_wp2_with fail
          refine Hsm.out.mono ?_
          rintro e w9 ⟨rfl, hc9⟩
          have HS9 := box (HS8.out.calm hc9)
          have Hx9 := box (heap_calm hc9 Hx8.out)
          clear hc9 Hsm
          go_wp2_with fail
          refine (oAll_any _ HS9.out.st.ofs).mono ?_
          rintro e w10 ⟨vc, rfl, hrc, hcc⟩
          have hri := rising_any vc lst1 w10 hrc.offs (by have := HS9.out.st.ofs.few; omega) HS9.out.st.ofs.rising
          obtain ⟨ac, ccap, rfl, _⟩ := hrc.offs
          have Hri := box hri
          have HS10 := box (HS9.out.calm hcc)
          have Hx10 := box (heap_calm hcc Hx9.out)
          clear hrc hcc hri
          go_wp2_with fail
          refine Hri.out.mono ?_
          rintro e w11 ⟨rfl, hcc⟩
          have HS11 := box (HS10.out.calm hcc)
          have hx11 := heap_calm hcc Hx10.out
          have x2 := cell_of hx11 2
          have x3 := cell_of hx11 3
          have x4 := cell_of hx11 4
          have xlt := heap_lt hx11
          have hge := Get_any xg xt xq w11 HS11.out.st.ofs
          rw [Hg.out] at hge
          have Hge := box hge
          clear hcc Hri hx11 hge
          go_wp2_with fail
          refine Hge.out.mono ?_
          rintro e w12 ⟨rfl, hcc⟩
          have HS12 := box (HS11.out.calm hcc)
          clear hcc Hge x2 x3 x4 xlt
          go_wp2_with fail
          go_roundw
          case rel => exact ⟨k + 1, d1', o1, ma1, mn1, mc1, by omega, hd1, by go_num, rfl, rfl, box ⟨lst1, SL1, N1, NL1, D1, F1, v1, HS12.out⟩⟩
          case measure => simp [intOf]; omega
    · obtain rfl : k = l.length := by omega
      go_wp2_with fail
      go_ret
      exact ⟨rfl, HS.out.st.owns.calm⟩
end Go.Proofs.YtafdfmdcnniccaaGreat.oplay
