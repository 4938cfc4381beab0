/- Layer 1: a reader's texts, lists and end. -/
import Derived.Test.YtafdfmdcnniccaaGreatRows
import Derived.WalkKit
import Derived.ProofKit
import Derived.OpenShut
import Derived.Handy
import Derived.Deep.LoopGhost
import Derived.Lib.Hide
import Derived.Lib.Strings
import Derived.SizedLaws
import Derived.Maps.Own
import Derived.Maps.OwnOps
import Derived.Maps.OwnSet
import Derived.Maps.RangeWalk
import Derived.Deep.QuietTactic
import Derived.BigQuiet
import Derived.Deep.RegionHeld3
import Derived.Lib.ConvBytes
import Derived.Lib.AppendZeros
import Derived.Lib.AppendZerosOnto
import Derived.Lib.LazyBuf
import Derived.Shelf.Abstract
import Derived.LaidEql
import Derived.Lib.SliceRun
import Derived.StillTailTactics
import Derived.Deep.Slices
import Derived.Outline
import Derived.Laws.Cover1
import Derived.Deep.RegionLaw
import Derived.Deep.DeepCutAuto
import Derived.Deep.CutBlock
import Derived.Shelf.SlicesE.Clone
import Derived.Ground.SlgnProg
import Derived.Test.YtafdfmdcnniccaaGreatProg
import Derived.Shelf.Strings.Builder1
import Derived.Shelf.Small.Bits
import Derived.Shelf.Small.Wraps
import Derived.Shelf.Strings.BuilderF
import Derived.Shelf.Strings.BuilderK
import Derived.Shelf.Strconv.Itoa0
import Derived.Shelf.Sort.Plain
import Derived.Shelf.GgClosure.StringsIndexFunc
import Derived.Ground.GgwProg
import Derived.Shelf.GgClosure.StringsIndexFuncTop
import Derived.Shelf.GgClosure.StringsRunes
import Derived.Shelf.Strings.Prefix
import Derived.Shelf.Strings.BuilderCap
import Derived.Ground.Names2Prog
import Derived.Shelf.Slices.SearchI
import Derived.Shelf.Slices.In.SortNone
import Derived.Ground.SlgfProg
import Derived.Shelf.SlicesE.IndexFunc
import Derived.Shelf.SlicesE.DeleteFunc
import Derived.Lib.DecodeN
import Derived.Lib.Overlaps
import Derived.Laws.CopyOwn
import Derived.Laws.MakeOwn
import Derived.Lib.Builder
import Derived.Lib.AppendStr
import Derived.Laws.Rows
import Derived.Test.YtafdfmdcnniccaaGreatPk21
namespace Go.Proofs.YtafdfmdcnniccaaGreat.oc
open Go.ChangeShapes Go.WideShapes Go.ChangeAt Go.RowKit

theorem fails_any (b : Nat) (R : Rdr) (x : Int) (s : ByteArray) (w : World) (h : RdrAt w b R) :
    Calls Tryz.prog 68 #[.pointer (some ⟨b, 0, none⟩), .int .i64 x, .string s] w fun e w' => e = .returned (.tuple #[]) ∧ RdrAt w' b ⟨s, x⟩ ∧ Keeps (· = b) w w' := by
  obtain ⟨c0, c1, f0, f1, hb⟩ := h.cells
  have h1 := box ((h.setE x).setS s)
  have K := box (((Keeps.refl (fun y => y = b) w).setCell (p := ⟨b, 1, none⟩) (.inl rfl) (.int .i64 x)).setCell (p := ⟨b, 0, none⟩) (.inl rfl) (.string s))
  clear h
  go_enter Tryz.func68, Tryz.ntmps68
  go_wp2_with fail
  go_end0
  exact ⟨rfl, h1.out, K.out⟩
theorem Left_any (b : Nat) (R : Rdr) (w : World) (h : RdrAt w b R) : Calls Tryz.prog 69 #[.pointer (some ⟨b, 0, none⟩)] w fun e w' => e = .returned (.int .i64 R.s.size) ∧ w = w' := by
  obtain ⟨c0, c1, f0, f1, hb⟩ := h.cells
  clear h
  go_enter Tryz.func69, Tryz.ntmps69
  go_wp2_with fail
  go_ret
  exact ⟨rfl, rfl⟩
theorem End_any (b : Nat) (R : Rdr) (w : World) (h : RdrAt w b R) : Calls Tryz.prog 43 #[.pointer (some ⟨b, 0, none⟩)] w fun e w' => e = .returned (.int .i64 R.end_) ∧ w = w' := by
  have HE := box (Err_any b R w h)
  have HL := box (Left_any b R w h)
  obtain ⟨s, e⟩ := R
  clear h
  simp only at HE HL
  by_cases he : e = 0
  · subst he
    by_cases hs : s.size = 0
    · have hr : Rdr.end_ ⟨s, 0⟩ = 0 := by unfold Rdr.end_; rw [if_neg (fun h => h rfl), if_pos hs]
      rw [hr]
      rw [hs] at HL
      clear hr hs
      go_enter Tryz.func43, Tryz.ntmps43
      go_wp2_with fail
      refine HE.out.mono ?_
      rintro e w' ⟨rfl, rfl⟩
      go_wp2_with fail
      refine HL.out.mono ?_
      rintro e w' ⟨rfl, rfl⟩
      go_wp2_with fail
      go_ret
      exact ⟨rfl, rfl⟩
    · have hr : Rdr.end_ ⟨s, 0⟩ = 4 := by unfold Rdr.end_; rw [if_neg (fun h => h rfl), if_neg hs]
      rw [hr]
      have hs1 : ((s.size : Int) == 0) = false := beq_eq_false_iff_ne.2 (by omega)
      clear hr hs
      go_enter Tryz.func43, Tryz.ntmps43
      go_wp2_with fail
      refine HE.out.mono ?_
      rintro e w' ⟨rfl, rfl⟩
      go_wp2_with fail
      refine HL.out.mono ?_
      rintro e w' ⟨rfl, rfl⟩
      go_wp2_with fail
      go_ret
      exact ⟨rfl, rfl⟩
  · have hr : Rdr.end_ ⟨s, e⟩ = e := by unfold Rdr.end_; rw [if_pos (by simpa using he)]
    rw [hr]
    have he1 : (e == 0) = false := beq_eq_false_iff_ne.2 he
    have he2 : (e != 0) = true := by rw [bne, he1]; rfl
    clear hr he
    go_enter Tryz.func43, Tryz.ntmps43
    go_wp2_with fail
    refine HE.out.mono ?_
    rintro e w' ⟨rfl, rfl⟩
    go_wp2_with fail
    go_ret
    exact ⟨rfl, rfl⟩
theorem trans_b {b : Nat} {w w1 w2 : World} (h : Keeps (· = b) w w1) (g : Keeps (· = b) w1 w2) : Keeps (· = b) w w2 := h.trans' g
set_option maxRecDepth 100000 in
set_option maxHeartbeats 4000000 in
theorem RText_any (b : Nat) (R : Rdr) (most : Int) (w : World) (h : RdrAt w b R) (hs : R.s.size ≤ 9223372036854775807) :
    Calls Tryz.prog 41 #[.pointer (some ⟨b, 0, none⟩), .int .i64 most] w (RdrDone (.string (R.text most).1) b (R.text most).2 w) := by
  have HE := box (Err_any b R w h)
  have HN := box (RNum_any b R 2 w h hs)
  have hl := num_left R 2
  have hns := num_small R 2
  obtain ⟨c0, c1, f0, f1, hb⟩ := h.cells
  have H := box h
  clear h
  by_cases he : R.e = 0
  · have hr := box (show R.text most = (if ((if (R.num 2).2.e = 0 ∧ most < (R.num 2).1 then (⟨(R.num 2).2.s, 6⟩ : Rdr) else (R.num 2).2).take (R.num 2).1).2.e ≠ 0 then (((if (R.num 2).2.e = 0 ∧ most < (R.num 2).1 then (⟨(R.num 2).2.s, 6⟩ : Rdr) else (R.num 2).2).take (R.num 2).1).1, (⟨R.s, ((if (R.num 2).2.e = 0 ∧ most < (R.num 2).1 then (⟨(R.num 2).2.s, 6⟩ : Rdr) else (R.num 2).2).take (R.num 2).1).2.e⟩ : Rdr)) else ((if (R.num 2).2.e = 0 ∧ most < (R.num 2).1 then (⟨(R.num 2).2.s, 6⟩ : Rdr) else (R.num 2).2).take (R.num 2).1)) by unfold Rdr.text; rw [if_neg (fun h => h he)])
    rw [he] at c1 HE
    obtain ⟨⟨n, s1, e1⟩, hN⟩ : ∃ r, R.num 2 = r := ⟨_, rfl⟩
    rw [hN] at HN hl hns hr
    simp only at HN hl hns hr
    obtain ⟨hn0, hn1⟩ := hns
    have hsb := box (Nat.le_trans hl hs)
    have hnb : n < 9223372036854775807 := by omega
    clear hN hl he
    obtain ⟨R2, hR2⟩ : ∃ R2 : Rdr, (if e1 = 0 ∧ most < n then (⟨s1, 6⟩ : Rdr) else ⟨s1, e1⟩) = R2 := ⟨_, rfl⟩
    rw [hR2] at hr
    have hs2 : R2.s = s1 := by rw [← hR2]; split <;> rfl
    have HT := box (fun (W : World) (hW : RdrAt W b R2) => Take_any b R2 n W hW (by rw [hs2]; exact hsb.out))
    obtain ⟨⟨t, s3, e3⟩, hT⟩ : ∃ r, R2.take n = r := ⟨_, rfl⟩
    rw [hT] at hr HT
    simp only at hr HT
    clear hT hs2
    go_enter Tryz.func41, Tryz.ntmps41
    go_wp2_with fail
    refine HE.out.mono ?_
    rintro e w1 ⟨rfl, rfl⟩
    go_wp2_with fail
    refine HN.out.mono ?_
    rintro e w2 ⟨rfl, hr2, hk2⟩
    have H2 := box hr2
    have K2 := box hk2
    obtain ⟨d0, d1, g0, g1, hb2⟩ := hr2.cells
    simp only at d0 d1
    clear hr2 hk2 c0 c1 f0 f1 hb
    by_cases h1 : e1 = 0 ∧ most < n
    · obtain ⟨rfl, hmn⟩ := h1
      rw [if_pos ⟨rfl, hmn⟩] at hR2
      subst hR2
      have H3 := box (H2.out.setE 6)
      have K3 := box (K2.out.setCell (p := ⟨b, 1, none⟩) (.inl rfl) (.int .i64 6))
      go_wp2_with fail
      refine (HT.out _ H3.out).mono ?_
      rintro e w4 ⟨rfl, hr4, hk4⟩
      have H4 := box hr4
      have K4 := box (trans_b K3.out hk4)
      obtain ⟨q0, q1, r0, r1, hb4⟩ := hr4.cells
      simp only at q0 q1
      clear hr4 hk4 d0 d1 g0 g1 hb2
      by_cases h3 : e3 = 0
      · subst h3
        have hr := box (show R.text most = (t, ⟨s3, 0⟩) by rw [hr.out, if_neg (fun h => h rfl)])
        go_wp2_with fail
        go_ret
        exact ⟨by rw [hr.out]; rfl, by rw [hr.out]; exact H4.out, K4.out⟩
      · have hr := box (show R.text most = (t, ⟨R.s, e3⟩) by rw [hr.out, if_pos h3])
        have he1 : (e3 == 0) = false := beq_eq_false_iff_ne.2 h3
        have he2 : (e3 != 0) = true := by rw [bne, he1]; rfl
        have HF := box (fails_any b ⟨s3, e3⟩ e3 R.s w4 H4.out)
        clear h3
        go_wp2_with fail
        refine HF.out.mono ?_
        rintro e w5 ⟨rfl, hr5, hk5⟩
        have H5 := box hr5
        have K5 := box (trans_b K4.out hk5)
        clear hr5 hk5
        go_wp2_with fail
        go_ret
        exact ⟨by rw [hr.out]; rfl, by rw [hr.out]; exact H5.out, K5.out⟩
    · rw [if_neg h1] at hR2
      subst hR2
      have H3 := H2
      have K3 := K2
      by_cases h0 : e1 = 0
      · subst h0
        have hmn : n ≤ most := by
          have : ¬ most < n := fun h => h1 ⟨rfl, h⟩
          omega
        clear h1
        go_wp2_with fail
        refine (HT.out _ H3.out).mono ?_
        rintro e w4 ⟨rfl, hr4, hk4⟩
        have H4 := box hr4
        have K4 := box (trans_b K3.out hk4)
        obtain ⟨q0, q1, r0, r1, hb4⟩ := hr4.cells
        simp only at q0 q1
        clear hr4 hk4 d0 d1 g0 g1 hb2
        by_cases h3 : e3 = 0
        · subst h3
          have hr := box (show R.text most = (t, ⟨s3, 0⟩) by rw [hr.out, if_neg (fun h => h rfl)])
          go_wp2_with fail
          go_ret
          exact ⟨by rw [hr.out]; rfl, by rw [hr.out]; exact H4.out, K4.out⟩
        · have hr := box (show R.text most = (t, ⟨R.s, e3⟩) by rw [hr.out, if_pos h3])
          have he1 : (e3 == 0) = false := beq_eq_false_iff_ne.2 h3
          have he2 : (e3 != 0) = true := by rw [bne, he1]; rfl
          have HF := box (fails_any b ⟨s3, e3⟩ e3 R.s w4 H4.out)
          clear h3
          go_wp2_with fail
          refine HF.out.mono ?_
          rintro e w5 ⟨rfl, hr5, hk5⟩
          have H5 := box hr5
          have K5 := box (trans_b K4.out hk5)
          clear hr5 hk5
          go_wp2_with fail
          go_ret
          exact ⟨by rw [hr.out]; rfl, by rw [hr.out]; exact H5.out, K5.out⟩
      · have hz1 : (e1 == 0) = false := beq_eq_false_iff_ne.2 h0
        clear h1 h0
        go_wp2_with fail
        refine (HT.out _ H3.out).mono ?_
        rintro e w4 ⟨rfl, hr4, hk4⟩
        have H4 := box hr4
        have K4 := box (trans_b K3.out hk4)
        obtain ⟨q0, q1, r0, r1, hb4⟩ := hr4.cells
        simp only at q0 q1
        clear hr4 hk4 d0 d1 g0 g1 hb2
        by_cases h3 : e3 = 0
        · subst h3
          have hr := box (show R.text most = (t, ⟨s3, 0⟩) by rw [hr.out, if_neg (fun h => h rfl)])
          go_wp2_with fail
          go_ret
          exact ⟨by rw [hr.out]; rfl, by rw [hr.out]; exact H4.out, K4.out⟩
        · have hr := box (show R.text most = (t, ⟨R.s, e3⟩) by rw [hr.out, if_pos h3])
          have he1 : (e3 == 0) = false := beq_eq_false_iff_ne.2 h3
          have he2 : (e3 != 0) = true := by rw [bne, he1]; rfl
          have HF := box (fails_any b ⟨s3, e3⟩ e3 R.s w4 H4.out)
          clear h3
          go_wp2_with fail
          refine HF.out.mono ?_
          rintro e w5 ⟨rfl, hr5, hk5⟩
          have H5 := box hr5
          have K5 := box (trans_b K4.out hk5)
          clear hr5 hk5
          go_wp2_with fail
          go_ret
          exact ⟨by rw [hr.out]; rfl, by rw [hr.out]; exact H5.out, K5.out⟩
  · have hr : R.text most = (⟨#[]⟩, R) := by unfold Rdr.text; rw [if_pos he]
    rw [hr]
    have he1 : (R.e == 0) = false := beq_eq_false_iff_ne.2 he
    have he2 : (R.e != 0) = true := by rw [bne, he1]; rfl
    clear hr he
    go_enter Tryz.func41, Tryz.ntmps41
    go_wp2_with fail
    refine HE.out.mono ?_
    rintro e w' ⟨rfl, rfl⟩
    go_wp2_with fail
    go_ret
    exact ⟨rfl, H.out, Keeps.refl _ w⟩
end Go.Proofs.YtafdfmdcnniccaaGreat.oc

/- Layer 14: offsets' bytes are made. -/
namespace Go.Proofs.YtafdfmdcnniccaaGreat.ofs
open Go.ChangeShapes Go.WideShapes Go.ChangeAt Go.RowKit
open Go.Proofs.YtafdfmdcnniccaaGreat.dk Go.Proofs.YtafdfmdcnniccaaGreat.nm Go.Proofs.YtafdfmdcnniccaaGreat.oc

theorem topic_size {s : ByteArray} (h : topicB s = true) : s.size ≤ 16 := by
  unfold topicB at h
  rw [Bool.or_eq_true] at h
  rcases h with h | h
  · have hcut : ∀ p : ByteArray, p.size ≤ 7 → hitS s p = true → s.size ≤ 15 := fun p hp hh => by
      unfold hitS at hh
      rw [Bool.and_eq_true] at hh
      obtain ⟨h1, h2⟩ := hh
      unfold groupB groupL at h2
      rw [Bool.and_eq_true, decide_eq_true_eq] at h2
      have h3 : (Lib.trimPrefix s.data.toList p.data.toList).length ≤ 8 := h2.2
      unfold Lib.trimPrefix at h3
      unfold hasS at h1
      rw [if_pos h1] at h3
      rw [List.length_drop, size_toList, size_toList] at h3
      omega
    unfold ofOk at h
    rw [Bool.or_eq_true] at h
    rcases h with h | h
    · have := hcut retryC (by decide) h; omega
    · have := hcut deadC (by decide) h; omega
  · unfold plainB plainL at h
    simp at h
    omega
theorem group_size {s : ByteArray} (h : groupB s = true) : s.size ≤ 8 := by
  unfold groupB groupL at h
  simp at h
  exact h.2
theorem rightO_ok {x : OffS} (h : rightO x = 0) : x.group.size ≤ 8 ∧ x.topic.size ≤ 16 ∧ 0 ≤ x.queue ∧ x.queue < 3 ∧ 0 ≤ x.at_ ∧ x.at_ ≤ 1099511627776 := by
  unfold rightO at h
  split at h; cases h
  rename_i h1
  split at h; cases h
  split at h; cases h
  have g : groupB x.group = true := by cases hb : groupB x.group with | true => rfl | false => exact absurd (.inl hb) h1
  have t : topicB x.topic = true := by cases hb : topicB x.topic with | true => rfl | false => exact absurd (.inr hb) h1
  exact ⟨group_size g, topic_size t, by omega, by omega, by omega, by omega⟩
/-- An offset's bytes. -/
def offL (x : OffS) : List UInt8 := textL x.group ++ textL x.topic ++ low 1 x.queue.toNat ++ low 6 x.at_.toNat
def putL (l : List OffS) : List UInt8 := low 1 l.length ++ l.flatMap offL
theorem Num_at (n x : Nat) (hn : 1 ≤ n) (hn7 : n ≤ 7) (hx : (x : Int) < 256 ^ n) (W : World) : Calls Tryz.prog 57 #[.int .i64 n, .slice (some ⟨W.heap.size, 0, none⟩) 1 1] (W.alloc (.cells #[.int .i64 (x : Int)] 3)) fun e w' => e = .returned (.tuple #[.string ⟨(low n x).toArray⟩, .int .i64 0]) ∧ Calm W w' := by
  have hc := (Calm.refl W).alloc (.cells #[.int .i64 (x : Int)] 3)
  have hlt : (256 : Int) ^ n ≤ 256 ^ 7 := by
    rcases (show n = 1 ∨ n = 2 ∨ n = 3 ∨ n = 4 ∨ n = 5 ∨ n = 6 ∨ n = 7 by omega) with rfl | rfl | rfl | rfl | rfl | rfl | rfl <;> decide
  have h := Num_any n (some ⟨W.heap.size, 0, none⟩) 1 [(x : Int)] (W.alloc (.cells #[.int .i64 (x : Int)] 3)) (fun k hk => ⟨W.heap.size, 0, rfl, by simp, by
    obtain rfl : k = 0 := by simp at hk; omega
    rw [cell_of (heap_new W _)]; rfl⟩) (by simp) (fun y hy => by
      rw [List.mem_singleton] at hy; subst hy
      have : (256 : Int) ^ 7 = 72057594037927936 := by decide
      omega)
  have hnb : numB n [(x : Int)] = (⟨(low n x).toArray⟩, 0) := by
    unfold numB
    rw [if_neg (by omega), if_pos (by
      simp only [List.all_cons, List.all_nil, Bool.and_true]
      unfold fitsN
      rw [decide_eq_true (Int.natCast_nonneg _), Int.toNat_natCast, decide_eq_true hx]; rfl)]
    unfold lowN
    rw [Int.toNat_natCast, List.flatMap_cons, List.flatMap_nil, List.append_nil, Int.toNat_natCast]
  rw [hnb] at h
  exact h.mono fun e w' ⟨he, hw⟩ => ⟨he, hc.trans hw⟩
theorem Text2_at (s t : ByteArray) (hs : s.size ≤ 1000) (ht : t.size ≤ 1000) (W : World) : Calls Tryz.prog 58 #[.slice (some ⟨W.heap.size, 0, none⟩) 2 2] (W.alloc (.cells #[.string s, .string t] 9)) fun e w' => e = .returned (.tuple #[.string ⟨(textL s ++ textL t).toArray⟩, .int .i64 0]) ∧ Calm W w' := by
  have hc := (Calm.refl W).alloc (.cells #[.string s, .string t] 9)
  have hb := heap_new W (.cells #[.string s, .string t] 9)
  have h := oc.Text_any (.slice (some ⟨W.heap.size, 0, none⟩) 2 2) [s, t] (W.alloc (.cells #[.string s, .string t] 9)) (.inr ⟨W.heap.size, 0, 2, rfl, fun k hk => by
    have hk2 : k < 2 := hk
    rcases (show k = 0 ∨ k = 1 by omega) with rfl | rfl
    · rw [cell_of hb]; rfl
    · rw [cell_of hb]; rfl⟩) (by simp) (fun u hu => by
      unfold maxLen
      rcases List.mem_cons.1 hu with rfl | hu
      · omega
      · rw [List.mem_singleton] at hu; subst hu; omega)
  have hn : textsB [s, t] = (⟨(textL s ++ textL t).toArray⟩, 0) := by
    unfold textsB
    rw [if_pos (by
      simp only [List.all_cons, List.all_nil, Bool.and_true]
      unfold shortB
      rw [decide_eq_true (show s.size ≤ 65535 by omega), decide_eq_true (show t.size ≤ 65535 by omega)]; rfl)]
    unfold textsL
    simp
  rw [hn] at h
  exact h.mono fun e w' ⟨he, hw⟩ => ⟨he, hc.trans hw⟩
set_option maxRecDepth 100000 in
set_option maxHeartbeats 4000000 in
theorem put_any (v : Value) (l : List OffS) (w : World) (h : OffsAt w v l) (hl : l.length ≤ 200) (hok : ∀ x ∈ l, rightO x = 0) :
    Calls Tryz.prog 28 #[v] w fun e w' => e = .returned (.string ⟨(putL l).toArray⟩) ∧ Calm w w' := by
  obtain ⟨a, cap, rfl, _, hc⟩ := h
  have Hc := box hc
  have Hok := box hok
  have hnum := box (Num_at 1 l.length (by omega) (by omega) (by simp; omega) w)
  clear hc hok
  go_enter Tryz.func28, Tryz.ntmps28
  go_wp2_with fail
  refine hnum.out.mono ?_
  rintro e w1 ⟨rfl, hc1⟩
  have HC1 := box hc1
  clear hc1 hnum
  go_wp2_with fail
  go_loopw [3, 22] (fun sv iv wr => ∃ (k : Nat) (u : ByteArray), k ≤ l.length ∧ iv = .int .i64 k ∧ sv = .string u ∧ u.size ≤ 1 + 40 * k ∧ Box (u.data.toList = low 1 l.length ++ (l.take k).flatMap offL) ∧ Calm w wr) (fun _ iv _ => l.length - (intOf iv).toNat)
  case atStart => exact ⟨0, _, Nat.zero_le _, rfl, rfl, by rw [low_size]; omega, box (by simp), HC1.out⟩
  case round =>
    clear HC1
    obtain ⟨k, u, hk, rfl, rfl, hus, HU, hcw⟩ := hrel
    have HC := box hcw
    clear hcw
    obtain ⟨wi, hwi⟩ : ∃ wi : World, wi = wr := ⟨_, rfl⟩
    subst hwi
    by_cases hlt : k < l.length
    · obtain ⟨b, off, rfl, hb, c0, c1, c2, c3⟩ := Hc.out k hlt
      have hok := Hok.out _ (List.getElem_mem hlt)
      have htk : (l.take (k + 1)).flatMap offL = (l.take k).flatMap offL ++ offL l[k] := by
        rw [List.take_succ_eq_append_getElem hlt, List.flatMap_append]; simp
      obtain ⟨⟨xg, xt, xq, xa⟩, ht⟩ : ∃ z, l[k] = z := ⟨_, rfl⟩
      simp only [ht] at c0 c1 c2 c3 hok htk
      obtain ⟨z1, z2, z3, z4, z5, z6⟩ := rightO_ok hok
      simp only at z1 z2 z3 z4 z5 z6
      obtain ⟨q, rfl⟩ : ∃ q : Nat, xq = q := ⟨xq.toNat, by omega⟩
      obtain ⟨at0, rfl⟩ : ∃ q : Nat, xa = q := ⟨xa.toNat, by omega⟩
      have c0' := (HC.out.cell (p := ⟨b, off + k * 4, none⟩) hb).trans c0
      have c1' := (HC.out.cell (p := ⟨b, off + k * 4 + 1, none⟩) hb).trans c1
      have c2' := (HC.out.cell (p := ⟨b, off + k * 4 + 2, none⟩) hb).trans c2
      have c3' := (HC.out.cell (p := ⟨b, off + k * 4 + 3, none⟩) hb).trans c3
      have hb' := Nat.lt_of_lt_of_le hb HC.out.size
      have hca := (Calm.refl wi).alloc (.cells #[.string xg, .string xt, .int .i64 (q : Int), .int .i64 (at0 : Int)] 31)
      have HCa := box hca
      have Hna := box (heap_new wi (.cells #[.string xg, .string xt, .int .i64 (q : Int), .int .i64 (at0 : Int)] 31))
      have htext := Text2_at xg xt (by omega) (by omega) (wi.alloc (.cells #[.string xg, .string xt, .int .i64 (q : Int), .int .i64 (at0 : Int)] 31))
      rw [World.size_alloc] at htext
      have hx1 : (⟨(textL xg ++ textL xt).toArray⟩ : ByteArray).data.toList = textL xg ++ textL xt := rfl
      have hx2 : (⟨(low 1 q).toArray⟩ : ByteArray).data.toList = low 1 q := rfl
      have hx3 : (⟨(low 6 at0).toArray⟩ : ByteArray).data.toList = low 6 at0 := rfl
      have y1 : (⟨(textL xg ++ textL xt).toArray⟩ : ByteArray).size ≤ 28 := by rw [← size_toList, hx1, List.length_append, textL_length, textL_length]; omega
      have y2 : (⟨(low 1 q).toArray⟩ : ByteArray).size = 1 := low_size 1 q
      have y3 : (⟨(low 6 at0).toArray⟩ : ByteArray).size = 6 := low_size 6 at0
      have hnum := box (fun W => Num_at 1 q (by omega) (by omega) (by simp; omega) W)
      have hnum6 := box (fun W => Num_at 6 at0 (by omega) (by omega) (by simp; omega) W)
      have hoffl : offL ⟨xg, xt, (q : Int), (at0 : Int)⟩ = textL xg ++ textL xt ++ low 1 q ++ low 6 at0 := rfl
      obtain ⟨x1, e1⟩ : ∃ x1 : ByteArray, ⟨(textL xg ++ textL xt).toArray⟩ = x1 := ⟨_, rfl⟩
      obtain ⟨x2, e2⟩ : ∃ x2 : ByteArray, ⟨(low 1 q).toArray⟩ = x2 := ⟨_, rfl⟩
      obtain ⟨x3, e3⟩ : ∃ x3 : ByteArray, ⟨(low 6 at0).toArray⟩ = x3 := ⟨_, rfl⟩
      rw [e1] at hx1 y1 htext
      rw [e2] at hx2 y2 hnum
      rw [e3] at hx3 y3 hnum6
      have HX := box (And.intro hx1 (And.intro hx2 hx3))
      rw [hoffl] at htk
      have Htext := box htext
      have Htk := box htk
      clear e1 e2 e3 hx1 hx2 hx3 hoffl
      clear c0 c1 c2 c3 ht htk hca htext hok
      go_wp2_with fail
      refine Htext.out.mono ?_
      rintro e w2 ⟨rfl, hc2⟩
      have j2 := heap_calm hc2 Hna.out
      have r2 := cell_of j2 2
      have jlt := heap_lt j2
      have HC2 := box hc2
      clear hc2 j2 Htext
      go_wp2_with fail
      refine (hnum.out _).mono ?_
      rintro e w3 ⟨rfl, hc3⟩
      have HC3 := box (HC2.out.trans hc3)
      have j3 := heap_calm HC3.out Hna.out
      have r3 := cell_of j3 3
      have jlt3 := heap_lt j3
      clear hc3 r2 jlt j3
      go_wp2_with fail
      refine (hnum6.out _).mono ?_
      rintro e w4 ⟨rfl, hc4⟩
      have HC4 := box (HC.out.trans (HCa.out.trans (HC3.out.trans hc4)))
      clear hc4 r3 jlt3
      go_wp2_with fail
      go_roundw
      case rel => exact ⟨k + 1, _, by omega, by go_num, rfl, by rw [ByteArray.size_append, ByteArray.size_append, ByteArray.size_append]; omega, box (by
        rw [append_toList, append_toList, append_toList, HU.out, Htk.out, HX.out.1, HX.out.2.1, HX.out.2.2]
        simp only [List.append_assoc]), HC4.out⟩
      case measure => simp [intOf]; omega
    · obtain rfl : k = l.length := by omega
      have hu := HU.out
      rw [List.take_length] at hu
      have hu2 : u = ⟨(putL l).toArray⟩ := ba_ext (by rw [hu]; rfl)
      clear hu
      go_wp2_with fail
      go_ret
      exact ⟨by rw [← hu2]; rfl, HC.out⟩
end Go.Proofs.YtafdfmdcnniccaaGreat.ofs
