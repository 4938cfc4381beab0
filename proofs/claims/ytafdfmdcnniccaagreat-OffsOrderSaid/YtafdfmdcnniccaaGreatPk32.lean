/- OffsOrder's walk. -/
import Derived.Test.YtafdfmdcnniccaaGreatRows
import Derived.WalkKit
import Derived.ProofKit
import Derived.OpenShut
import Derived.Handy
import Derived.Deep.LoopGhost
import Derived.Lib.Hide
import Derived.Lib.Strings
import Derived.SizedLaws
import Derived.Maps.Own
import Derived.Maps.OwnOps
import Derived.Maps.OwnSet
import Derived.Maps.RangeWalk
import Derived.Deep.QuietTactic
import Derived.BigQuiet
import Derived.Deep.RegionHeld3
import Derived.Lib.ConvBytes
import Derived.Lib.AppendZeros
import Derived.Lib.AppendZerosOnto
import Derived.Lib.LazyBuf
import Derived.Shelf.Abstract
import Derived.LaidEql
import Derived.Lib.SliceRun
import Derived.StillTailTactics
import Derived.Deep.Slices
import Derived.Outline
import Derived.Laws.Cover1
import Derived.Deep.RegionLaw
import Derived.Deep.DeepCutAuto
import Derived.Deep.CutBlock
import Derived.Shelf.SlicesE.Clone
import Derived.Ground.SlgnProg
import Derived.Test.YtafdfmdcnniccaaGreatProg
import Derived.Shelf.Strings.Builder1
import Derived.Shelf.Small.Bits
import Derived.Shelf.Small.Wraps
import Derived.Shelf.Strings.BuilderF
import Derived.Shelf.Strings.BuilderK
import Derived.Shelf.Strconv.Itoa0
import Derived.Shelf.Sort.Plain
import Derived.Shelf.GgClosure.StringsIndexFunc
import Derived.Ground.GgwProg
import Derived.Shelf.GgClosure.StringsIndexFuncTop
import Derived.Shelf.GgClosure.StringsRunes
import Derived.Shelf.Strings.Prefix
import Derived.Shelf.Strings.BuilderCap
import Derived.Ground.Names2Prog
import Derived.Shelf.Slices.SearchI
import Derived.Shelf.Slices.In.SortNone
import Derived.Ground.SlgfProg
import Derived.Shelf.SlicesE.IndexFunc
import Derived.Shelf.SlicesE.DeleteFunc
import Derived.Lib.DecodeN
import Derived.Lib.Overlaps
import Derived.Laws.CopyOwn
import Derived.Laws.MakeOwn
import Derived.Lib.Builder
import Derived.Lib.AppendStr
import Derived.Laws.Rows
import Derived.Shelf.SlIter.Nil
import Derived.Ground.GgzProg
import Derived.Shelf.SortM.Plain
import Derived.Shelf.SortM.SortNone
import Derived.Ground.SlgmProg
import Derived.Laws.BitsLemmas
import Derived.Laws.ResultCell
import Derived.Laws.StructEq
import Derived.Laws.Cover3
import Derived.OwnWalk
import Derived.Test.YtafdfmdcnniccaaGreatPk31
namespace Go.Proofs.YtafdfmdcnniccaaGreat.oorder
open Go.ChangeShapes Go.WideShapes Go.ChangeAt Go.RowKit
open Go.Proofs.YtafdfmdcnniccaaGreat.dk Go.Proofs.YtafdfmdcnniccaaGreat.nm Go.Proofs.YtafdfmdcnniccaaGreat.tp Go.Proofs.YtafdfmdcnniccaaGreat.ofs Go.Proofs.YtafdfmdcnniccaaGreat.olast

theorem keepS {W w w' : World} {k p o : Nat} {D : DiskS} {l : List OffS} {F K : Nat → Prop} {v : Value} (h : OfS W k p o D l w F v) (hk : Keeps K w w') (h1 : ∀ b, F b → ¬ K b) (h2 : ¬ K o) (h3 : ∀ g, v.ownBlock = some g → ¬ K g) (hc : Calm W w') : OfS W k p o D l w' F v :=
  ⟨h.disk.keep hk h1, ⟨(hk.block o (heap_lt h.ofs.at_) h2).trans h.ofs.at_, row_same h.ofs.row (fun g hg => hk.block g (h.ofs.row.lt g hg).2 (h3 g hg)), h.ofs.few, h.ofs.rising, h.ofs.ok⟩, ⟨hc, h.owns.foot⟩, h.oW⟩
/-- Offsets over a disk, and others over another one. -/
structure Two (W : World) (p o : Nat) (A : List OffS) (q r : Nat) (E : List OffS) (w : World) (F G : Nat → Prop) (v u : Value) : Prop where
  a : OfS W 0 p o (dk.new 65536) A w F v
  b : OfS W 0 q r (dk.new 65536) E w G u
  ne : o ≠ r
  own : ∀ g, v.ownBlock = some g → u.ownBlock ≠ some g
  foot : ∀ b, F b → ¬ G b
section
variable {W w w' : World} {p o q r : Nat} {A E : List OffS} {F G : Nat → Prop} {v u : Value}
theorem Two.swap (h : Two W p o A q r E w F G v u) : Two W q r E p o A w G F u v := ⟨h.b, h.a, fun e => h.ne e.symm, fun g hg e => h.own g e hg, fun b hg hf => h.foot b hf hg⟩
theorem Two.calm (h : Two W p o A q r E w F G v u) (hc : Calm w w') : Two W p o A q r E w' F G v u := ⟨h.a.calm hc, h.b.calm hc, h.ne, h.own, h.foot⟩
theorem own_ne {B : Nat} {l : List OffS} {d : Nat} {z : Value} (h : offRow B w v l) (ht : OffAt w o d z) : v.ownBlock ≠ some o := fun e => by
  obtain ⟨cur, hc⟩ := own_row h e
  unfold OffAt at ht
  rw [hc] at ht
  simp only [Option.some.injEq, Obj.cells.injEq] at ht
  exact absurd ht.2.1 (by decide)
theorem Two.set (h : Two W p o A q r E w F G v u) (x : OffS) :
    Calls Tryz.prog 9 #[ptrTo o, .agg (offA x)] w fun e w' => e = .returned (.int .i64 (setC A x)) ∧ (∃ v', Two W p o (setL A x) q r E w' F G v' u) ∧ ∀ g, g < w.heap.size → g ≠ o → v.ownBlock ≠ some g → w'.heap[g]? = w.heap[g]? := by
  refine (Set_any W.heap.size o p v A x w h.a.ofs h.a.owns.calm.size).mono ?_
  rintro e w' ⟨v', rfl, hO, hk, hg⟩
  have hcw : Calm W w' := Below.trans h.a.owns.calm (hk.below h.a.owns.calm.size (fun b hb => hb.elim (fun e => e ▸ h.a.oW) (fun e => (h.a.ofs.row.lt b e).1)))
  refine ⟨rfl, ⟨v', ⟨h.a.disk.keep hk (fun b hb hx => hx.elim (fun e => ofs_apart h.a.disk h.a.ofs.at_ (e ▸ hb)) (fun e => off_apart h.a.disk h.a.ofs.row e hb)), hO, ⟨hcw, h.a.owns.foot⟩, h.a.oW⟩, ?_, h.ne, fun g hg1 hg2 => ?_, h.foot⟩,
    fun g hlt h1 h2 => hk.block g hlt (fun hx => hx.elim h1 h2)⟩
  · exact keepS h.b hk (fun b hb hx => hx.elim (fun e => ofs_apart h.b.disk h.a.ofs.at_ (e ▸ hb)) (fun e => off_apart h.b.disk h.a.ofs.row e hb)) (fun hx => hx.elim (fun e => h.ne e.symm) (fun e => own_ne h.a.ofs.row h.b.ofs.at_ e)) (fun g hg1 hx => hx.elim (fun e => own_ne h.b.ofs.row h.a.ofs.at_ (e ▸ hg1)) (fun e => h.own g e hg1)) hcw
  · rcases hg g hg1 with h1 | h1
    · exact h.own g h1 hg2
    · have := (h.b.ofs.row.lt g hg2).2
      omega
end
set_option maxRecDepth 100000 in
set_option maxHeartbeats 16000000 in
theorem walk (W : World) (v : Value) (l : List OffS) (r : RowsAt OffR 4 W v l) :
    Calls Tryz.prog 5 #[v] W fun e W' => e = .returned (.bool true) ∧ Calm W W' := by
  obtain ⟨a, cap, rfl, hml, hcap, hel⟩ := olast.RowsAt.offs r
  have Hel := box hel
  clear hel r
  unfold maxLen at hml
  go_enter Tryz.func5, Tryz.ntmps5
  go_wp2_with fail
  refine (ofs.awake_any _).mono ?_
  rintro e w1 ⟨rfl, hca⟩
  have O1 := box ((Owns.refl W).calm' hca)
  clear hca
  by_cases h30 : 30 < l.length
  · go_wp2_with fail
    go_ret
    exact ⟨rfl, O1.out.calm⟩
  have hn : l.length ≤ 30 := by omega
  go_wp2_with fail
  refine (New_ok _ 65536).mono ?_
  rintro e w2 ⟨p, F, rfl, h2, hc2, hF2⟩
  have H2 := box h2
  have O2 := box (O1.out.new hc2 hF2)
  clear h2 hc2 hF2 hml h30
  go_wp2_with fail
  refine (New_ok _ 65536).mono ?_
  rintro e w3 ⟨q, G, rfl, h3, hc3, hG3⟩
  have H3 := box (And.intro (H2.out.calm hc3) h3)
  have O3 := box (And.intro (O2.out.calm' hc3) (show Owns W w3 G from ⟨O2.out.calm.trans hc3, fun b hb => Nat.le_trans O2.out.calm.size (hG3 b hb)⟩))
  have HFG := box (show ∀ b, F b → ¬ G b from fun b hb hg => by have := H2.out.foot_lt b hb; have := hG3 b hg; omega)
  clear h3 hc3 hG3 H2 O2
  go_wp2_with fail
  refine (Open_of w3 H3.out.1 (by decide) (by decide)).mono ?_
  rw [new_open]
  rintro e w4 ⟨hc4, o, v0, rfl, hO, ho⟩
  have HA := box (show OfS W 0 p o (dk.new 65536) [] w4 F v0 from ⟨H3.out.1.calm hc4, ⟨hO.at_, row_base (row_zero hO.row) (fun g hg => Nat.le_trans O3.out.1.calm.size (hO.row.lt g hg).1), hO.few, hO.rising, hO.ok⟩, O3.out.1.calm' hc4, Nat.le_trans O3.out.1.calm.size ho⟩)
  have H4 := box (And.intro (H3.out.2.calm hc4) (O3.out.2.calm' hc4))
  clear hc4 hO ho H3 O3
  go_wp2_with fail
  refine (Open_of w4 H4.out.1 (by decide) (by decide)).mono ?_
  rw [new_open]
  rintro e w5 ⟨hc5, r, u0, rfl, hO, hr⟩
  have HS0 := box (show Two W p o [] q r [] w5 F G v0 u0 from ⟨HA.out.calm hc5, ⟨H4.out.1.calm hc5, ⟨hO.at_, row_base (row_zero hO.row) (fun g hg => Nat.le_trans H4.out.2.calm.size (hO.row.lt g hg).1), hO.few, hO.rising, hO.ok⟩, H4.out.2.calm' hc5, Nat.le_trans H4.out.2.calm.size hr⟩,
    fun e => by have := heap_lt HA.out.ofs.at_; omega, fun g hg e => by have := (HA.out.ofs.row.lt g hg).2; have := (hO.row.lt g e).1; omega, HFG.out⟩)
  clear hc5 hO hr HA H4 HFG
  go_wp2_with fail
  go_loopw [36] (fun iv wr => ∃ (k : Nat) (v' u' : Value), k ≤ l.length ∧ iv = .int .i64 k ∧ Box (Unlike (l.take k)) ∧ Box (Two W p o ((l.take k).foldl setL []) q r ((l.reverse.take k).foldl setL []) wr F G v' u')) (fun iv _ => l.length - (intOf iv).toNat)
  case atStart => exact ⟨0, v0, u0, Nat.zero_le _, rfl, box (by rw [List.take_zero]; exact List.Pairwise.nil), box HS0.out⟩
  case round =>
    clear HS0
    obtain ⟨k, v1, u1, hk, rfl, HU, HS⟩ := hrel
    obtain ⟨wo, hwo⟩ : ∃ wo : World, wo = wr := ⟨_, rfl⟩
    subst hwo
    by_cases hlt : k < l.length
    · obtain ⟨lb, loff, rfl, hlb, ⟨hc0, hc1, hc2, hc3⟩, z0, z1⟩ := Hel.out k hlt
      have d0 := (HS.out.a.owns.calm.cell (p := ⟨lb, loff + k * 4, none⟩) hlb).trans hc0
      have d1 := (HS.out.a.owns.calm.cell (p := ⟨lb, loff + k * 4 + 1, none⟩) hlb).trans hc1
      have d2 := (HS.out.a.owns.calm.cell (p := ⟨lb, loff + k * 4 + 2, none⟩) hlb).trans hc2
      have d3 := (HS.out.a.owns.calm.cell (p := ⟨lb, loff + k * 4 + 3, none⟩) hlb).trans hc3
      have hlbo := Nat.lt_of_lt_of_le hlb HS.out.a.owns.calm.size
      have hus := box (unlike_snoc hlt HU.out)
      have hA := fold_snoc hlt
      have hE := fold_turned hlt
      have hrowk := box (show ∀ Wx, Calm W Wx → OffsAt Wx (.slice (some ⟨lb, loff, none⟩) k cap) (l.take k) from fun Wx hcx => ⟨_, cap, by rw [List.length_take, Nat.min_eq_left (Nat.le_of_lt hlt)], .inr ⟨lb, loff, rfl⟩, fun i hi => by
        have hi2 : i < k := by rw [List.length_take] at hi; omega
        obtain ⟨b', off', e', hb', ⟨y0, y1, y2, y3⟩, _, _⟩ := Hel.out i (by omega)
        cases e'
        refine ⟨lb, loff, rfl, Nat.lt_of_lt_of_le hlb hcx.size, ?_⟩
        rw [List.getElem_take]
        exact ⟨(hcx.cell (p := ⟨lb, loff + i * 4, none⟩) hlb).trans y0, (hcx.cell (p := ⟨lb, loff + i * 4 + 1, none⟩) hlb).trans y1, (hcx.cell (p := ⟨lb, loff + i * 4 + 2, none⟩) hlb).trans y2, (hcx.cell (p := ⟨lb, loff + i * 4 + 3, none⟩) hlb).trans y3⟩⟩)
      obtain ⟨⟨xg, xt, xq, xa⟩, hx⟩ : ∃ x, l[k] = x := ⟨_, rfl⟩
      simp only [hx] at d0 d1 d2 d3 z0 z1 hus hA
      have HA := box hA
      have HE := box hE
      have Ha := box ((Calm.refl wo).alloc (.cells #[.string xg, .string xt, .int .i64 xq, .int .i64 xa] 31))
      have Hnew := box (heap_new wo (.cells #[.string xg, .string xt, .int .i64 xq, .int .i64 xa] 31))
      have hfnd := box (fun Wx (hcx : Calm W Wx) => (show Calls Tryz.prog _ #[.slice (some ⟨lb, loff, none⟩) k cap, .agg #[.string xg, .string xt, .int .i64 xq, .int .i64 xa]] Wx _ from find_any (.slice (some ⟨lb, loff, none⟩) k cap) (l.take k) ⟨xg, xt, xq, xa⟩ Wx (hrowk.out Wx hcx) (by rw [List.length_take]; omega)))
      have hkc : k ≤ cap := by omega
      have hk0 : (0 : Int) ≤ (k : Int) := by omega
      obtain ⟨wd, hwd⟩ : ∃ wd, wo.alloc (.cells #[.string xg, .string xt, .int .i64 xq, .int .i64 xa] 31) = wd := ⟨_, rfl⟩
      have Ha' := Ha
      rw [hwd] at Ha Hnew
      have hSS := box (fun Wx (hc : Calm wd Wx) => (show Box (Wx.cell? ⟨wo.heap.size, 0, none⟩ = some (.string xg) ∧ Wx.cell? ⟨wo.heap.size, 1, none⟩ = some (.string xt) ∧ Wx.cell? ⟨wo.heap.size, 2, none⟩ = some (.int .i64 xq) ∧ Wx.cell? ⟨wo.heap.size, 3, none⟩ = some (.int .i64 xa)) ∧ Box True from ⟨box ⟨cell_of (heap_calm hc Hnew.out) 0, cell_of (heap_calm hc Hnew.out) 1, cell_of (heap_calm hc Hnew.out) 2, cell_of (heap_calm hc Hnew.out) 3⟩, box trivial⟩))
      clear hx hc0 hc1 hc2 hc3 hA hE hrowk Ha'
      go_upto_region 13 with fail
      clear hwd
      by_cases hbig : 100 < xg.size
      · have hb1 : decide ((100 : Int) < (xg.size : Int)) = true := decide_eq_true (by omega)
        have hb2 : decide (100 < xg.size) = true := decide_eq_true hbig
        refine wp_region_held_drew (S := fun W => Box (W.cell? ⟨wo.heap.size, 0, none⟩ = some (.string xg) ∧ W.cell? ⟨wo.heap.size, 1, none⟩ = some (.string xt) ∧ W.cell? ⟨wo.heap.size, 2, none⟩ = some (.int .i64 xq) ∧ W.cell? ⟨wo.heap.size, 3, none⟩ = some (.int .i64 xa)) ∧ Box True) (by kernel_rfl) (hSS.out _ (Calm.refl wd).drew) (fun hHeld => ?_)
        ((refine' wpAnyH_take (i := 0) (v := _) rfl (by kernel_rfl) (by kernel_rfl) (by kernel_rfl) (fun _ _ _ h => h) (Or.inl ⟨by rfl, ?hy849⟩) (by assumption) ?rest849; (case hy849 => (intro w hSw; (try dsimp only at hSw); go_simp <;> with_reducible rfl)); simp only [List.getElem_toArray, List.getElem_cons_succ, List.getElem_cons_zero, Act.put, List.setIfInBounds_toArray, List.set_cons_zero, List.set_cons_succ]))
        ((refine' wpAnyH_take (i := 1) (v := _) rfl (by kernel_rfl) (by kernel_rfl) (by kernel_rfl) (fun _ _ _ h => h) (Or.inl ⟨by rfl, ?hy850⟩) (by assumption) ?rest850; (case hy850 => (intro w hSw; obtain ⟨⟨hSw1⟩, ⟨hSw2⟩⟩ := hSw; go_simp <;> with_reducible rfl)); simp only [List.getElem_toArray, List.getElem_cons_succ, List.getElem_cons_zero, Act.put, List.setIfInBounds_toArray, List.set_cons_zero, List.set_cons_succ]))
        ((refine' wpAnyH_take (i := 2) (v := _) rfl (by kernel_rfl) (by kernel_rfl) (by kernel_rfl) (fun _ _ _ h => h) (Or.inl ⟨by rfl, ?hy851⟩) (by assumption) ?rest851; (case hy851 => (intro w hSw; (try dsimp only at hSw); go_simp <;> with_reducible rfl)); simp only [List.getElem_toArray, List.getElem_cons_succ, List.getElem_cons_zero, Act.put, List.setIfInBounds_toArray, List.set_cons_zero, List.set_cons_succ]); (refine' wpAnyH_take (i := 3) (v := _) rfl (by kernel_rfl) (by kernel_rfl) (by kernel_rfl) (fun _ _ _ h => h) (Or.inl ⟨by rfl, ?hy852⟩) (by assumption) ?rest852; (case hy852 => (intro w hSw; (try dsimp only at hSw); go_simp <;> with_reducible rfl)); simp only [List.getElem_toArray, List.getElem_cons_succ, List.getElem_cons_zero, Act.put, List.setIfInBounds_toArray, List.set_cons_zero, List.set_cons_succ]); (refine' wpAnyH_take (i := 4) (v := _) rfl (by kernel_rfl) (by kernel_rfl) (by kernel_rfl) (fun _ _ _ h => h) (Or.inl ⟨by rfl, ?hy853⟩) (by assumption) ?rest853; (case hy853 => (intro w hSw; (try dsimp only at hSw); go_simp <;> with_reducible rfl)); simp only [List.getElem_toArray, List.getElem_cons_succ, List.getElem_cons_zero, Act.put, List.setIfInBounds_toArray, List.set_cons_zero, List.set_cons_succ]))
        ((refine' wpAnyH_take (i := 5) (v := _) rfl (by kernel_rfl) (by kernel_rfl) (by kernel_rfl) (fun _ _ _ h => h) (Or.inr ⟨by rfl, rfl⟩) (by assumption) ?rest854; simp only [List.getElem_toArray, List.getElem_cons_succ, List.getElem_cons_zero, Act.put, List.setIfInBounds_toArray, List.set_cons_zero, List.set_cons_succ]); (refine' wpAnyH_take (i := 6) (v := _) rfl (by kernel_rfl) (by kernel_rfl) (by kernel_rfl) (fun _ _ _ h => h) (Or.inr ⟨by rfl, rfl⟩) (by assumption) ?rest855; simp only [List.getElem_toArray, List.getElem_cons_succ, List.getElem_cons_zero, Act.put, List.setIfInBounds_toArray, List.set_cons_zero, List.set_cons_succ]); (refine' wpAnyH_take (i := 7) (v := _) rfl (by kernel_rfl) (by kernel_rfl) (by kernel_rfl) (fun _ _ _ h => h) (Or.inr ⟨by rfl, rfl⟩) (by assumption) ?rest856; simp only [List.getElem_toArray, List.getElem_cons_succ, List.getElem_cons_zero, Act.put, List.setIfInBounds_toArray, List.set_cons_zero, List.set_cons_succ]); (refine' wpAnyH_take (i := 8) (v := _) rfl (by kernel_rfl) (by kernel_rfl) (by kernel_rfl) (fun _ _ _ h => h) (Or.inr ⟨by rfl, rfl⟩) (by assumption) ?rest857; simp only [List.getElem_toArray, List.getElem_cons_succ, List.getElem_cons_zero, Act.put, List.setIfInBounds_toArray, List.set_cons_zero, List.set_cons_succ]))
        ((refine' wpAnyH_take (i := 9) (v := _) rfl (by kernel_rfl) (by kernel_rfl) (by kernel_rfl) (fun _ _ _ h => h) (Or.inl ⟨by rfl, ?hy858⟩) (by assumption) ?rest858; (case hy858 => (intro w hSw; (try dsimp only at hSw); go_simp <;> with_reducible rfl)); simp only [List.getElem_toArray, List.getElem_cons_succ, List.getElem_cons_zero, Act.put, List.setIfInBounds_toArray, List.set_cons_zero, List.set_cons_succ]); (refine' wpAnyH_take (i := 10) (v := _) rfl (by kernel_rfl) (by kernel_rfl) (by kernel_rfl) (fun _ _ _ h => h) (Or.inl ⟨by rfl, ?hy859⟩) (by assumption) ?rest859; (case hy859 => (intro w hSw; (try dsimp only at hSw); go_simp <;> with_reducible rfl)); simp only [List.getElem_toArray, List.getElem_cons_succ, List.getElem_cons_zero, Act.put, List.setIfInBounds_toArray, List.set_cons_zero, List.set_cons_succ]))
        ((refine' wpAnyH_take (i := 11) (v := _) rfl (by kernel_rfl) (by kernel_rfl) (by kernel_rfl) (fun _ _ _ h => h) (Or.inr ⟨by rfl, rfl⟩) (by assumption) ?rest860; simp only [List.getElem_toArray, List.getElem_cons_succ, List.getElem_cons_zero, Act.put, List.setIfInBounds_toArray, List.set_cons_zero, List.set_cons_succ]); (refine' wpAnyH_take (i := 12) (v := _) rfl (by kernel_rfl) (by kernel_rfl) (by kernel_rfl) (fun _ _ _ h => h) (Or.inr ⟨by rfl, rfl⟩) (by assumption) ?rest861; simp only [List.getElem_toArray, List.getElem_cons_succ, List.getElem_cons_zero, Act.put, List.setIfInBounds_toArray, List.set_cons_zero, List.set_cons_succ]); (refine' wpAnyH_take (i := 13) (v := _) rfl (by kernel_rfl) (by kernel_rfl) (by kernel_rfl) (fun _ _ _ h => h) (Or.inr ⟨by rfl, rfl⟩) (by assumption) ?rest862; simp only [List.getElem_toArray, List.getElem_cons_succ, List.getElem_cons_zero, Act.put, List.setIfInBounds_toArray, List.set_cons_zero, List.set_cons_succ]); (refine' wpAnyH_take (i := 14) (v := _) rfl (by kernel_rfl) (by kernel_rfl) (by kernel_rfl) (fun _ _ _ h => h) (Or.inr ⟨by rfl, rfl⟩) (by assumption) ?rest863; simp only [List.getElem_toArray, List.getElem_cons_succ, List.getElem_cons_zero, Act.put, List.setIfInBounds_toArray, List.set_cons_zero, List.set_cons_succ]); (refine' wpAnyH_take (i := 15) (v := _) rfl (by kernel_rfl) (by kernel_rfl) (by kernel_rfl) (fun _ _ _ h => h) (Or.inr ⟨by rfl, rfl⟩) (by assumption) ?rest864; simp only [List.getElem_toArray, List.getElem_cons_succ, List.getElem_cons_zero, Act.put, List.setIfInBounds_toArray, List.set_cons_zero, List.set_cons_succ]); (refine' wpAnyH_take (i := 16) (v := _) rfl (by kernel_rfl) (by kernel_rfl) (by kernel_rfl) (fun _ _ _ h => h) (Or.inr ⟨by rfl, rfl⟩) (by assumption) ?rest865; simp only [List.getElem_toArray, List.getElem_cons_succ, List.getElem_cons_zero, Act.put, List.setIfInBounds_toArray, List.set_cons_zero, List.set_cons_succ]))
        ((refine' wpAnyH_take (i := 17) (v := _) rfl (by kernel_rfl) (by kernel_rfl) (by kernel_rfl) (fun _ _ _ h => h) (Or.inl ⟨by rfl, ?hy866⟩) (by assumption) ?rest866; (case hy866 => (intro w hSw; (try dsimp only at hSw); go_simp <;> with_reducible rfl)); simp only [List.getElem_toArray, List.getElem_cons_succ, List.getElem_cons_zero, Act.put, List.setIfInBounds_toArray, List.set_cons_zero, List.set_cons_succ]))
        refine wpAnyH_done (by kernel_rfl) ?_ _
        go_wp2_with fail
        go_ret
        exact ⟨rfl, HS.out.a.owns.calm.trans (Ha.out.trans ((Calm.refl wd).drew))⟩
      have hb1 : decide ((100 : Int) < (xg.size : Int)) = false := decide_eq_false (by omega)
      have hb2 : decide (100 < xg.size) = false := decide_eq_false hbig
      by_cases hbig2 : 100 < xt.size
      · have hb3 : decide ((100 : Int) < (xt.size : Int)) = true := decide_eq_true (by omega)
        have hb4 : decide (100 < xt.size) = true := decide_eq_true hbig2
        refine wp_region_held_drew (S := fun W => Box (W.cell? ⟨wo.heap.size, 0, none⟩ = some (.string xg) ∧ W.cell? ⟨wo.heap.size, 1, none⟩ = some (.string xt) ∧ W.cell? ⟨wo.heap.size, 2, none⟩ = some (.int .i64 xq) ∧ W.cell? ⟨wo.heap.size, 3, none⟩ = some (.int .i64 xa)) ∧ Box True) (by kernel_rfl) (hSS.out _ (Calm.refl wd).drew) (fun hHeld => ?_)
        ((refine' wpAnyH_take (i := 0) (v := _) rfl (by kernel_rfl) (by kernel_rfl) (by kernel_rfl) (fun _ _ _ h => h) (Or.inl ⟨by rfl, ?hy867⟩) (by assumption) ?rest867; (case hy867 => (intro w hSw; (try dsimp only at hSw); go_simp <;> with_reducible rfl)); simp only [List.getElem_toArray, List.getElem_cons_succ, List.getElem_cons_zero, Act.put, List.setIfInBounds_toArray, List.set_cons_zero, List.set_cons_succ]))
        ((refine' wpAnyH_take (i := 1) (v := _) rfl (by kernel_rfl) (by kernel_rfl) (by kernel_rfl) (fun _ _ _ h => h) (Or.inl ⟨by rfl, ?hy868⟩) (by assumption) ?rest868; (case hy868 => (intro w hSw; obtain ⟨⟨hSw1⟩, ⟨hSw2⟩⟩ := hSw; go_simp <;> with_reducible rfl)); simp only [List.getElem_toArray, List.getElem_cons_succ, List.getElem_cons_zero, Act.put, List.setIfInBounds_toArray, List.set_cons_zero, List.set_cons_succ]))
        ((refine' wpAnyH_take (i := 2) (v := _) rfl (by kernel_rfl) (by kernel_rfl) (by kernel_rfl) (fun _ _ _ h => h) (Or.inl ⟨by rfl, ?hy869⟩) (by assumption) ?rest869; (case hy869 => (intro w hSw; (try dsimp only at hSw); go_simp <;> with_reducible rfl)); simp only [List.getElem_toArray, List.getElem_cons_succ, List.getElem_cons_zero, Act.put, List.setIfInBounds_toArray, List.set_cons_zero, List.set_cons_succ]); (refine' wpAnyH_take (i := 3) (v := _) rfl (by kernel_rfl) (by kernel_rfl) (by kernel_rfl) (fun _ _ _ h => h) (Or.inl ⟨by rfl, ?hy870⟩) (by assumption) ?rest870; (case hy870 => (intro w hSw; (try dsimp only at hSw); go_simp <;> with_reducible rfl)); simp only [List.getElem_toArray, List.getElem_cons_succ, List.getElem_cons_zero, Act.put, List.setIfInBounds_toArray, List.set_cons_zero, List.set_cons_succ]); (refine' wpAnyH_take (i := 4) (v := _) rfl (by kernel_rfl) (by kernel_rfl) (by kernel_rfl) (fun _ _ _ h => h) (Or.inl ⟨by rfl, ?hy871⟩) (by assumption) ?rest871; (case hy871 => (intro w hSw; (try dsimp only at hSw); go_simp <;> with_reducible rfl)); simp only [List.getElem_toArray, List.getElem_cons_succ, List.getElem_cons_zero, Act.put, List.setIfInBounds_toArray, List.set_cons_zero, List.set_cons_succ]); (refine' wpAnyH_take (i := 5) (v := _) rfl (by kernel_rfl) (by kernel_rfl) (by kernel_rfl) (fun _ _ _ h => h) (Or.inl ⟨by rfl, ?hy872⟩) (by assumption) ?rest872; (case hy872 => (intro w hSw; (try dsimp only at hSw); go_simp <;> with_reducible rfl)); simp only [List.getElem_toArray, List.getElem_cons_succ, List.getElem_cons_zero, Act.put, List.setIfInBounds_toArray, List.set_cons_zero, List.set_cons_succ]))
        ((refine' wpAnyH_take (i := 6) (v := _) rfl (by kernel_rfl) (by kernel_rfl) (by kernel_rfl) (fun _ _ _ h => h) (Or.inl ⟨by rfl, ?hy873⟩) (by assumption) ?rest873; (case hy873 => (intro w hSw; obtain ⟨⟨hSw1⟩, ⟨hSw2⟩⟩ := hSw; go_simp <;> with_reducible rfl)); simp only [List.getElem_toArray, List.getElem_cons_succ, List.getElem_cons_zero, Act.put, List.setIfInBounds_toArray, List.set_cons_zero, List.set_cons_succ]))
        ((refine' wpAnyH_take (i := 7) (v := _) rfl (by kernel_rfl) (by kernel_rfl) (by kernel_rfl) (fun _ _ _ h => h) (Or.inl ⟨by rfl, ?hy874⟩) (by assumption) ?rest874; (case hy874 => (intro w hSw; (try dsimp only at hSw); go_simp <;> with_reducible rfl)); simp only [List.getElem_toArray, List.getElem_cons_succ, List.getElem_cons_zero, Act.put, List.setIfInBounds_toArray, List.set_cons_zero, List.set_cons_succ]); (refine' wpAnyH_take (i := 8) (v := _) rfl (by kernel_rfl) (by kernel_rfl) (by kernel_rfl) (fun _ _ _ h => h) (Or.inl ⟨by rfl, ?hy875⟩) (by assumption) ?rest875; (case hy875 => (intro w hSw; (try dsimp only at hSw); go_simp <;> with_reducible rfl)); simp only [List.getElem_toArray, List.getElem_cons_succ, List.getElem_cons_zero, Act.put, List.setIfInBounds_toArray, List.set_cons_zero, List.set_cons_succ]); (refine' wpAnyH_take (i := 9) (v := _) rfl (by kernel_rfl) (by kernel_rfl) (by kernel_rfl) (fun _ _ _ h => h) (Or.inl ⟨by rfl, ?hy876⟩) (by assumption) ?rest876; (case hy876 => (intro w hSw; (try dsimp only at hSw); go_simp <;> with_reducible rfl)); simp only [List.getElem_toArray, List.getElem_cons_succ, List.getElem_cons_zero, Act.put, List.setIfInBounds_toArray, List.set_cons_zero, List.set_cons_succ]); (refine' wpAnyH_take (i := 10) (v := _) rfl (by kernel_rfl) (by kernel_rfl) (by kernel_rfl) (fun _ _ _ h => h) (Or.inl ⟨by rfl, ?hy877⟩) (by assumption) ?rest877; (case hy877 => (intro w hSw; (try dsimp only at hSw); go_simp <;> with_reducible rfl)); simp only [List.getElem_toArray, List.getElem_cons_succ, List.getElem_cons_zero, Act.put, List.setIfInBounds_toArray, List.set_cons_zero, List.set_cons_succ]))
        ((refine' wpAnyH_take (i := 11) (v := _) rfl (by kernel_rfl) (by kernel_rfl) (by kernel_rfl) (fun _ _ _ h => h) (Or.inr ⟨by rfl, rfl⟩) (by assumption) ?rest878; simp only [List.getElem_toArray, List.getElem_cons_succ, List.getElem_cons_zero, Act.put, List.setIfInBounds_toArray, List.set_cons_zero, List.set_cons_succ]); (refine' wpAnyH_take (i := 12) (v := _) rfl (by kernel_rfl) (by kernel_rfl) (by kernel_rfl) (fun _ _ _ h => h) (Or.inr ⟨by rfl, rfl⟩) (by assumption) ?rest879; simp only [List.getElem_toArray, List.getElem_cons_succ, List.getElem_cons_zero, Act.put, List.setIfInBounds_toArray, List.set_cons_zero, List.set_cons_succ]); (refine' wpAnyH_take (i := 13) (v := _) rfl (by kernel_rfl) (by kernel_rfl) (by kernel_rfl) (fun _ _ _ h => h) (Or.inr ⟨by rfl, rfl⟩) (by assumption) ?rest880; simp only [List.getElem_toArray, List.getElem_cons_succ, List.getElem_cons_zero, Act.put, List.setIfInBounds_toArray, List.set_cons_zero, List.set_cons_succ]); (refine' wpAnyH_take (i := 14) (v := _) rfl (by kernel_rfl) (by kernel_rfl) (by kernel_rfl) (fun _ _ _ h => h) (Or.inr ⟨by rfl, rfl⟩) (by assumption) ?rest881; simp only [List.getElem_toArray, List.getElem_cons_succ, List.getElem_cons_zero, Act.put, List.setIfInBounds_toArray, List.set_cons_zero, List.set_cons_succ]); (refine' wpAnyH_take (i := 15) (v := _) rfl (by kernel_rfl) (by kernel_rfl) (by kernel_rfl) (fun _ _ _ h => h) (Or.inr ⟨by rfl, rfl⟩) (by assumption) ?rest882; simp only [List.getElem_toArray, List.getElem_cons_succ, List.getElem_cons_zero, Act.put, List.setIfInBounds_toArray, List.set_cons_zero, List.set_cons_succ]); (refine' wpAnyH_take (i := 16) (v := _) rfl (by kernel_rfl) (by kernel_rfl) (by kernel_rfl) (fun _ _ _ h => h) (Or.inr ⟨by rfl, rfl⟩) (by assumption) ?rest883; simp only [List.getElem_toArray, List.getElem_cons_succ, List.getElem_cons_zero, Act.put, List.setIfInBounds_toArray, List.set_cons_zero, List.set_cons_succ]))
        ((refine' wpAnyH_take (i := 17) (v := _) rfl (by kernel_rfl) (by kernel_rfl) (by kernel_rfl) (fun _ _ _ h => h) (Or.inl ⟨by rfl, ?hy884⟩) (by assumption) ?rest884; (case hy884 => (intro w hSw; (try dsimp only at hSw); go_simp <;> with_reducible rfl)); simp only [List.getElem_toArray, List.getElem_cons_succ, List.getElem_cons_zero, Act.put, List.setIfInBounds_toArray, List.set_cons_zero, List.set_cons_succ]))
        refine wpAnyH_done (by kernel_rfl) ?_ _
        go_wp2_with fail
        go_ret
        exact ⟨rfl, HS.out.a.owns.calm.trans (Ha.out.trans ((Calm.refl wd).drew))⟩
      have hb3 : decide ((100 : Int) < (xt.size : Int)) = false := decide_eq_false (by omega)
      have hb4 : decide (100 < xt.size) = false := decide_eq_false hbig2
      refine wp_region_held_drew (S := fun W => Box (W.cell? ⟨wo.heap.size, 0, none⟩ = some (.string xg) ∧ W.cell? ⟨wo.heap.size, 1, none⟩ = some (.string xt) ∧ W.cell? ⟨wo.heap.size, 2, none⟩ = some (.int .i64 xq) ∧ W.cell? ⟨wo.heap.size, 3, none⟩ = some (.int .i64 xa)) ∧ Box True) (by kernel_rfl) (hSS.out _ (Calm.refl wd).drew) (fun hHeld => ?_)
      ((refine' wpAnyH_take (i := 0) (v := _) rfl (by kernel_rfl) (by kernel_rfl) (by kernel_rfl) (fun _ _ _ h => h) (Or.inl ⟨by rfl, ?hy885⟩) (by assumption) ?rest885; (case hy885 => (intro w hSw; (try dsimp only at hSw); go_simp <;> with_reducible rfl)); simp only [List.getElem_toArray, List.getElem_cons_succ, List.getElem_cons_zero, Act.put, List.setIfInBounds_toArray, List.set_cons_zero, List.set_cons_succ]))
      ((refine' wpAnyH_take (i := 1) (v := _) rfl (by kernel_rfl) (by kernel_rfl) (by kernel_rfl) (fun _ _ _ h => h) (Or.inl ⟨by rfl, ?hy886⟩) (by assumption) ?rest886; (case hy886 => (intro w hSw; obtain ⟨⟨hSw1⟩, ⟨hSw2⟩⟩ := hSw; go_simp <;> with_reducible rfl)); simp only [List.getElem_toArray, List.getElem_cons_succ, List.getElem_cons_zero, Act.put, List.setIfInBounds_toArray, List.set_cons_zero, List.set_cons_succ]))
      ((refine' wpAnyH_take (i := 2) (v := _) rfl (by kernel_rfl) (by kernel_rfl) (by kernel_rfl) (fun _ _ _ h => h) (Or.inl ⟨by rfl, ?hy887⟩) (by assumption) ?rest887; (case hy887 => (intro w hSw; (try dsimp only at hSw); go_simp <;> with_reducible rfl)); simp only [List.getElem_toArray, List.getElem_cons_succ, List.getElem_cons_zero, Act.put, List.setIfInBounds_toArray, List.set_cons_zero, List.set_cons_succ]); (refine' wpAnyH_take (i := 3) (v := _) rfl (by kernel_rfl) (by kernel_rfl) (by kernel_rfl) (fun _ _ _ h => h) (Or.inl ⟨by rfl, ?hy888⟩) (by assumption) ?rest888; (case hy888 => (intro w hSw; (try dsimp only at hSw); go_simp <;> with_reducible rfl)); simp only [List.getElem_toArray, List.getElem_cons_succ, List.getElem_cons_zero, Act.put, List.setIfInBounds_toArray, List.set_cons_zero, List.set_cons_succ]); (refine' wpAnyH_take (i := 4) (v := _) rfl (by kernel_rfl) (by kernel_rfl) (by kernel_rfl) (fun _ _ _ h => h) (Or.inl ⟨by rfl, ?hy889⟩) (by assumption) ?rest889; (case hy889 => (intro w hSw; (try dsimp only at hSw); go_simp <;> with_reducible rfl)); simp only [List.getElem_toArray, List.getElem_cons_succ, List.getElem_cons_zero, Act.put, List.setIfInBounds_toArray, List.set_cons_zero, List.set_cons_succ]); (refine' wpAnyH_take (i := 5) (v := _) rfl (by kernel_rfl) (by kernel_rfl) (by kernel_rfl) (fun _ _ _ h => h) (Or.inl ⟨by rfl, ?hy890⟩) (by assumption) ?rest890; (case hy890 => (intro w hSw; (try dsimp only at hSw); go_simp <;> with_reducible rfl)); simp only [List.getElem_toArray, List.getElem_cons_succ, List.getElem_cons_zero, Act.put, List.setIfInBounds_toArray, List.set_cons_zero, List.set_cons_succ]))
      ((refine' wpAnyH_take (i := 6) (v := _) rfl (by kernel_rfl) (by kernel_rfl) (by kernel_rfl) (fun _ _ _ h => h) (Or.inl ⟨by rfl, ?hy891⟩) (by assumption) ?rest891; (case hy891 => (intro w hSw; obtain ⟨⟨hSw1⟩, ⟨hSw2⟩⟩ := hSw; go_simp <;> with_reducible rfl)); simp only [List.getElem_toArray, List.getElem_cons_succ, List.getElem_cons_zero, Act.put, List.setIfInBounds_toArray, List.set_cons_zero, List.set_cons_succ]))
      ((refine' wpAnyH_take (i := 7) (v := _) rfl (by kernel_rfl) (by kernel_rfl) (by kernel_rfl) (fun _ _ _ h => h) (Or.inl ⟨by rfl, ?hy892⟩) (by assumption) ?rest892; (case hy892 => (intro w hSw; (try dsimp only at hSw); go_simp <;> with_reducible rfl)); simp only [List.getElem_toArray, List.getElem_cons_succ, List.getElem_cons_zero, Act.put, List.setIfInBounds_toArray, List.set_cons_zero, List.set_cons_succ]); (refine' wpAnyH_take (i := 8) (v := _) rfl (by kernel_rfl) (by kernel_rfl) (by kernel_rfl) (fun _ _ _ h => h) (Or.inl ⟨by rfl, ?hy893⟩) (by assumption) ?rest893; (case hy893 => (intro w hSw; (try dsimp only at hSw); go_simp <;> with_reducible rfl)); simp only [List.getElem_toArray, List.getElem_cons_succ, List.getElem_cons_zero, Act.put, List.setIfInBounds_toArray, List.set_cons_zero, List.set_cons_succ]); (refine' wpAnyH_take (i := 9) (v := _) rfl (by kernel_rfl) (by kernel_rfl) (by kernel_rfl) (fun _ _ _ h => h) (Or.inl ⟨by rfl, ?hy894⟩) (by assumption) ?rest894; (case hy894 => (intro w hSw; (try dsimp only at hSw); go_simp <;> with_reducible rfl)); simp only [List.getElem_toArray, List.getElem_cons_succ, List.getElem_cons_zero, Act.put, List.setIfInBounds_toArray, List.set_cons_zero, List.set_cons_succ]); (refine' wpAnyH_take (i := 10) (v := _) rfl (by kernel_rfl) (by kernel_rfl) (by kernel_rfl) (fun _ _ _ h => h) (Or.inl ⟨by rfl, ?hy895⟩) (by assumption) ?rest895; (case hy895 => (intro w hSw; (try dsimp only at hSw); go_simp <;> with_reducible rfl)); simp only [List.getElem_toArray, List.getElem_cons_succ, List.getElem_cons_zero, Act.put, List.setIfInBounds_toArray, List.set_cons_zero, List.set_cons_succ]); (refine' wpAnyH_take (i := 11) (v := _) rfl (by kernel_rfl) (by kernel_rfl) (by kernel_rfl) (fun _ _ _ h => h) (Or.inl ⟨by rfl, ?hy896⟩) (by assumption) ?rest896; (case hy896 => (intro w hSw; (try dsimp only at hSw); go_simp <;> with_reducible rfl)); simp only [List.getElem_toArray, List.getElem_cons_succ, List.getElem_cons_zero, Act.put, List.setIfInBounds_toArray, List.set_cons_zero, List.set_cons_succ]); (refine' wpAnyH_take (i := 12) (v := _) rfl (by kernel_rfl) (by kernel_rfl) (by kernel_rfl) (fun _ _ _ h => h) (Or.inl ⟨by rfl, ?hy897⟩) (by assumption) ?rest897; (case hy897 => (intro w hSw; (try dsimp only at hSw); go_simp <;> with_reducible rfl)); simp only [List.getElem_toArray, List.getElem_cons_succ, List.getElem_cons_zero, Act.put, List.setIfInBounds_toArray, List.set_cons_zero, List.set_cons_succ]); (refine' wpAnyH_take (i := 13) (v := _) rfl (by kernel_rfl) (by kernel_rfl) (by kernel_rfl) (fun _ _ _ h => h) (Or.inl ⟨by rfl, ?hy898⟩) (by assumption) ?rest898; (case hy898 => (intro w hSw; (try dsimp only at hSw); go_simp <;> with_reducible rfl)); simp only [List.getElem_toArray, List.getElem_cons_succ, List.getElem_cons_zero, Act.put, List.setIfInBounds_toArray, List.set_cons_zero, List.set_cons_succ]))
      ((refine' wpAnyH_take (i := 14) (v := _) rfl (by kernel_rfl) (by kernel_rfl) (by kernel_rfl) (fun _ _ _ h => h) (Or.inl ⟨by rfl, ?hy899⟩) (by assumption) ?rest899; (case hy899 => (intro w hSw; obtain ⟨⟨hSw1⟩, ⟨hSw2⟩⟩ := hSw; go_simp <;> with_reducible rfl)); simp only [List.getElem_toArray, List.getElem_cons_succ, List.getElem_cons_zero, Act.put, List.setIfInBounds_toArray, List.set_cons_zero, List.set_cons_succ]))
      refine wpAnyH_ready (rs := [15]) (by kernel_rfl) (by simp) ?_
      refine AllReadyH.cons rfl (fun K hK => ?_) AllReadyH.nil
      rw [if_pos (by rfl)]
      go_simp
      refine (hfnd.out _ (HS.out.a.owns.calm.trans (Ha.out.trans (Calm.refl wd).drew))).mono ?_
      rintro e w6 ⟨hc6, hres⟩
      have HC6 := box (show Calm wd w6 from Calm.trans ((Calm.refl wd).drew) hc6)
      clear hc6
      rcases hres with ⟨hnone, rfl⟩ | ⟨j, hj, _, rfl⟩
      · have HU2 := box (hus.out hnone)
        clear hnone hus hfnd
        go_wp2_with fail
        refine hK.out _ _ (hSS.out _ HC6.out) (fun hHeld => ?_)
        clear hK K
        try simp only [List.getElem_toArray, List.getElem_cons_succ, List.getElem_cons_zero, Act.put, List.setIfInBounds_toArray, List.set_cons_zero, List.set_cons_succ]
        ((refine' wpAnyH_take (i := 16) (v := _) rfl (by kernel_rfl) (by kernel_rfl) (by kernel_rfl) (fun _ _ _ h => h) (Or.inl ⟨by rfl, ?hy900⟩) (by assumption) ?rest900; (case hy900 => (intro w hSw; (try dsimp only at hSw); go_simp <;> with_reducible rfl)); simp only [List.getElem_toArray, List.getElem_cons_succ, List.getElem_cons_zero, Act.put, List.setIfInBounds_toArray, List.set_cons_zero, List.set_cons_succ]); (refine' wpAnyH_take (i := 17) (v := _) rfl (by kernel_rfl) (by kernel_rfl) (by kernel_rfl) (fun _ _ _ h => h) (Or.inl ⟨by rfl, ?hy901⟩) (by assumption) ?rest901; (case hy901 => (intro w hSw; (try dsimp only at hSw); go_simp <;> with_reducible rfl)); simp only [List.getElem_toArray, List.getElem_cons_succ, List.getElem_cons_zero, Act.put, List.setIfInBounds_toArray, List.set_cons_zero, List.set_cons_succ]))
        refine wpAnyH_done (by kernel_rfl) ?_ _
        have HX6 := box (heap_calm HC6.out Hnew.out)
        have x0 := cell_of HX6.out 0
        have x1 := cell_of HX6.out 1
        have x2 := cell_of HX6.out 2
        have x3 := cell_of HX6.out 3
        have xlt := heap_lt HX6.out
        have HT6 := box (HS.out.calm (Ha.out.trans HC6.out))
        have hset := HT6.out.set ⟨xg, xt, xq, xa⟩
        rw [← HA.out] at hset
        have Hset := box (show Calls Tryz.prog _ #[ptrTo o, .agg #[.string xg, .string xt, .int .i64 xq, .int .i64 xa]] w6 _ from hset)
        clear hset
        go_wp2_with fail
        refine Hset.out.mono ?_
        rintro e w7 ⟨rfl, ⟨v2, h7⟩, _⟩
        have H7 := box h7
        clear h7 Hset x0 x1 x2 x3 xlt HT6 d0 d1 d2 d3 hHeld hSS
        obtain ⟨m, hm⟩ : ∃ m, l.length - 1 - k = m := ⟨_, rfl⟩
        have hml : m < l.length := by omega
        obtain ⟨lb', loff', he', _, ⟨q0, q1, q2, q3⟩, _, _⟩ := Hel.out m hml
        cases he'
        have e0 := (H7.out.a.owns.calm.cell (p := ⟨lb, loff + m * 4, none⟩) hlb).trans q0
        have e1 := (H7.out.a.owns.calm.cell (p := ⟨lb, loff + m * 4 + 1, none⟩) hlb).trans q1
        have e2 := (H7.out.a.owns.calm.cell (p := ⟨lb, loff + m * 4 + 2, none⟩) hlb).trans q2
        have e3 := (H7.out.a.owns.calm.cell (p := ⟨lb, loff + m * 4 + 3, none⟩) hlb).trans q3
        have hlb7 := Nat.lt_of_lt_of_le hlb H7.out.a.owns.calm.size
        have hE2 := HE.out
        simp only [hm] at hE2
        obtain ⟨⟨yg, yt, yq, ya⟩, hy⟩ : ∃ y, l[m] = y := ⟨_, rfl⟩
        simp only [hy] at e0 e1 e2 e3 hE2
        have hset := H7.out.swap.set ⟨yg, yt, yq, ya⟩
        rw [← hE2] at hset
        have Hset := box (show Calls Tryz.prog _ #[ptrTo r, .agg #[.string yg, .string yt, .int .i64 yq, .int .i64 ya]] w7 _ from hset)
        have hmi : (l.length : Int) - 1 - (k : Int) = (m : Int) := by omega
        clear hset hE2 hy q0 q1 q2 q3 hm
        go_wp2_with fail
        refine Hset.out.mono ?_
        rintro e w8 ⟨rfl, ⟨u2, h8⟩, _⟩
        have H8 := box h8.swap
        clear h8 Hset
        go_wp2_with fail
        go_roundw
        case rel => exact ⟨k + 1, v2, u2, by omega, by go_num, HU2, H8⟩
        case measure => simp [intOf]; omega
      · go_wp2_with fail
        refine hK.out _ _ (hSS.out _ HC6.out) (fun hHeld => ?_)
        clear hK K
        try simp only [List.getElem_toArray, List.getElem_cons_succ, List.getElem_cons_zero, Act.put, List.setIfInBounds_toArray, List.set_cons_zero, List.set_cons_succ]
        ((refine' wpAnyH_take (i := 16) (v := _) rfl (by kernel_rfl) (by kernel_rfl) (by kernel_rfl) (fun _ _ _ h => h) (Or.inl ⟨by rfl, ?hy902⟩) (by assumption) ?rest902; (case hy902 => (intro w hSw; (try dsimp only at hSw); go_simp <;> with_reducible rfl)); simp only [List.getElem_toArray, List.getElem_cons_succ, List.getElem_cons_zero, Act.put, List.setIfInBounds_toArray, List.set_cons_zero, List.set_cons_succ]); (refine' wpAnyH_take (i := 17) (v := _) rfl (by kernel_rfl) (by kernel_rfl) (by kernel_rfl) (fun _ _ _ h => h) (Or.inl ⟨by rfl, ?hy903⟩) (by assumption) ?rest903; (case hy903 => (intro w hSw; (try dsimp only at hSw); go_simp <;> with_reducible rfl)); simp only [List.getElem_toArray, List.getElem_cons_succ, List.getElem_cons_zero, Act.put, List.setIfInBounds_toArray, List.set_cons_zero, List.set_cons_succ]))
        refine wpAnyH_done (by kernel_rfl) ?_ _
        go_wp2_with fail
        go_ret
        exact ⟨rfl, HS.out.a.owns.calm.trans (Ha.out.trans HC6.out)⟩
    · obtain rfl : k = l.length := by omega
      have hU := HU.out
      rw [List.take_length] at hU
      have hO := order_same hU hn
      have hT := HS.out
      rw [List.take_length, show l.reverse.take l.length = l.reverse from List.take_of_length_le (by rw [List.length_reverse]; exact Nat.le_refl _), ← hO] at hT
      obtain ⟨A, hA⟩ : ∃ A, l.foldl setL [] = A := ⟨_, rfl⟩
      rw [hA] at hT
      have HT := box hT
      have HG := box hT.a.good
      clear hU hO hT hA HS HU
      go_wp2_with fail
      refine (oAll_any _ HT.out.a.ofs).mono ?_
      rintro e w8 ⟨va, rfl, hra, hca⟩
      have HCa := box hca
      have Hra := box hra
      obtain ⟨aa, acap, rfl, _⟩ := hra.offs
      have H8 := box (HT.out.calm hca)
      clear hra hca
      go_wp2_with fail
      refine (oAll_any _ H8.out.b.ofs).mono ?_
      rintro e w9 ⟨vb, rfl, hrb, hcb⟩
      have hsm := same_any (.slice aa A.length acap) vb A A w9 (Hra.out.offs.calm hcb) hrb.offs (by have := HG.out.few; omega) (by have := HG.out.few; omega)
      rw [same_self HG.out.rising] at hsm
      have Hsm := box hsm
      obtain ⟨ab, bcap, rfl, _⟩ := hrb.offs
      have H9 := box (H8.out.calm hcb)
      clear hrb hcb hsm HT HCa Hra
      go_wp2_with fail
      refine Hsm.out.mono ?_
      rintro e w10 ⟨rfl, hcc⟩
      have H10 := box (H9.out.calm hcc)
      clear hcc H9 H8
      go_wp2_with fail
      refine (oAll_any _ H10.out.a.ofs).mono ?_
      rintro e w11 ⟨vc, rfl, hrc, hcc⟩
      have hri := rising_any vc A w11 hrc.offs (by have := HG.out.few; omega) HG.out.rising
      obtain ⟨ac, ccap, rfl, _⟩ := hrc.offs
      have Hri := box hri
      have H11 := box (H10.out.calm hcc)
      clear hrc hcc hri H10
      go_wp2_with fail
      refine Hri.out.mono ?_
      rintro e w12 ⟨rfl, hcc⟩
      have H12 := box (H11.out.calm hcc)
      clear hcc H11 Hri Hsm
      go_wp2_with fail
      refine (H12.out.a.flush (by decide) (fun f hf => by cases hf) (Nat.zero_le _)).mono ?_
      rintro e w13 ⟨b, F2, _, rfl, h13, hs13⟩
      obtain ⟨D4, hD4, hf4, hw4, hd4, hS4⟩ := flush_new 65536 (.inl (by decide)) (by decide) HG.out b
      rw [hD4] at h13 ⊢
      have H13 := box h13
      have HB13 := box (keepS H12.out.b hs13.keeps (fun b hg hf => H12.out.foot b hf hg) (fun hf => ofs_apart H12.out.a.disk H12.out.b.ofs.at_ hf) (fun g hg hf => off_apart H12.out.a.disk H12.out.b.ofs.row hg hf) h13.owns.calm)
      have HFG := box (show ∀ b, F2 b → ¬ G b from fun b hb hg => by
        rcases hs13.foot b hb with h1 | h1
        · exact H12.out.foot b h1 hg
        · have := H12.out.b.disk.foot_lt b hg; omega)
      have Hf4 := box hf4
      clear h13 hs13 hD4 hf4 hw4 hd4 hS4 H12
      go_wp2_with fail
      refine (HB13.out.flush (by decide) (fun f hf => by cases hf) (Nat.zero_le _)).mono ?_
      rintro e w14 ⟨b2, G2, _, rfl, h14, hs14⟩
      obtain ⟨D5, hD5, hf5, hw5, hd5, hS5⟩ := flush_new 65536 (.inl (by decide)) (by decide) HG.out b2
      rw [hD5] at h14 ⊢
      have HP := box (H13.out.disk.keep hs14.keeps (fun b hb hg => HFG.out b hb hg))
      have hsd : SameS D4 D5 := ⟨by rw [Hf4.out, hf5]; rfl, fun f hf => by
        rw [Hf4.out, List.mem_singleton] at hf
        subst hf
        exact ⟨⟨groupsN, b2, sealB (putB A), sealB (putB A)⟩, by unfold DiskS.find; rw [hf5]; rfl, rfl⟩⟩
      have HSd := box (Same_yes w14 HP.out.lies h14.disk.lies hsd)
      have HO14 := box h14.owns.calm
      clear h14 hs14 hD5 hf5 hw5 hd5 hS5 hsd HP
      go_wp2_with fail
      refine HSd.out.mono ?_
      rintro e w15 ⟨rfl, hcd⟩
      have HCd := box hcd
      clear hcd
      go_wp2_with fail
      go_ret
      exact ⟨ret_bool (by simp), HO14.out.trans HCd.out⟩
end Go.Proofs.YtafdfmdcnniccaaGreat.oorder
