/- Layer 1: a reader's texts, lists and end. -/
import Derived.Test.YtccbfekajbnehaaGreatRows
import Derived.WalkKit
import Derived.ProofKit
import Derived.OpenShut
import Derived.Handy
import Derived.Deep.LoopGhost
import Derived.Lib.Hide
import Derived.Lib.Strings
import Derived.SizedLaws
import Derived.Maps.Own
import Derived.Maps.OwnOps
import Derived.Maps.OwnSet
import Derived.Maps.RangeWalk
import Derived.Deep.QuietTactic
import Derived.BigQuiet
import Derived.Deep.RegionHeld3
import Derived.Lib.ConvBytes
import Derived.Lib.AppendZeros
import Derived.Lib.AppendZerosOnto
import Derived.Lib.LazyBuf
import Derived.Shelf.Abstract
import Derived.LaidEql
import Derived.Lib.SliceRun
import Derived.StillTailTactics
import Derived.Deep.Slices
import Derived.Shelf.Strings.Builder1
import Derived.Shelf.Small.Bits
import Derived.Shelf.Small.Wraps
import Derived.Shelf.Strings.BuilderF
import Derived.Shelf.Strings.BuilderK
import Derived.Shelf.Strconv.Itoa0
import Derived.Shelf.Sort.Plain
import Derived.Shelf.GgClosure.StringsIndexFunc
import Derived.Ground.GgwProg
import Derived.Shelf.GgClosure.StringsIndexFuncTop
import Derived.Shelf.GgClosure.StringsRunes
import Derived.Shelf.Strings.Prefix
import Derived.Shelf.Strings.BuilderCap
import Derived.Shelf.Slices.In.SortNone
import Derived.Ground.SlgfProg
import Derived.Shelf.SlicesE.IndexFunc
import Derived.Shelf.SlicesE.DeleteFunc
import Derived.Test.YtccbfekajbnehaaGreatProg
import Derived.Lib.DecodeN
import Derived.Shelf.SlicesQ.IndexFunc
import Derived.Shelf.SlicesE.Clone
import Derived.Ground.SlgnProg
import Derived.Laws.MakeOwn
import Derived.Lib.Builder
import Derived.Lib.AppendStr
import Derived.Laws.Rows
import Derived.Test.YtccbfekajbnehaaGreatPk16
namespace Go.Proofs.YtccbfekajbnehaaGreat.oc
open Go.ChangeShapes Go.WideShapes Go.ChangeAt Go.RowKit

theorem fails_any (b : Nat) (R : Rdr) (x : Int) (s : ByteArray) (w : World) (h : RdrAt w b R) :
    Calls Tryz.prog 87 #[.pointer (some ⟨b, 0, none⟩), .int .i64 x, .string s] w fun e w' => e = .returned (.tuple #[]) ∧ RdrAt w' b ⟨s, x⟩ ∧ Keeps (· = b) w w' := by
  obtain ⟨c0, c1, f0, f1, hb⟩ := h.cells
  have h1 := box ((h.setE x).setS s)
  have K := box (((Keeps.refl (fun y => y = b) w).setCell (p := ⟨b, 1, none⟩) (.inl rfl) (.int .i64 x)).setCell (p := ⟨b, 0, none⟩) (.inl rfl) (.string s))
  clear h
  go_enter Tryz.func87, Tryz.ntmps87
  go_wp2_with fail
  go_end0
  exact ⟨rfl, h1.out, K.out⟩
theorem Left_any (b : Nat) (R : Rdr) (w : World) (h : RdrAt w b R) : Calls Tryz.prog 88 #[.pointer (some ⟨b, 0, none⟩)] w fun e w' => e = .returned (.int .i64 R.s.size) ∧ w = w' := by
  obtain ⟨c0, c1, f0, f1, hb⟩ := h.cells
  clear h
  go_enter Tryz.func88, Tryz.ntmps88
  go_wp2_with fail
  go_ret
  exact ⟨rfl, rfl⟩
theorem End_any (b : Nat) (R : Rdr) (w : World) (h : RdrAt w b R) : Calls Tryz.prog 66 #[.pointer (some ⟨b, 0, none⟩)] w fun e w' => e = .returned (.int .i64 R.end_) ∧ w = w' := by
  have HE := box (Err_any b R w h)
  have HL := box (Left_any b R w h)
  obtain ⟨s, e⟩ := R
  clear h
  simp only at HE HL
  by_cases he : e = 0
  · subst he
    by_cases hs : s.size = 0
    · have hr : Rdr.end_ ⟨s, 0⟩ = 0 := by unfold Rdr.end_; rw [if_neg (fun h => h rfl), if_pos hs]
      rw [hr]
      rw [hs] at HL
      clear hr hs
      go_enter Tryz.func66, Tryz.ntmps66
      go_wp2_with fail
      refine HE.out.mono ?_
      rintro e w' ⟨rfl, rfl⟩
      go_wp2_with fail
      refine HL.out.mono ?_
      rintro e w' ⟨rfl, rfl⟩
      go_wp2_with fail
      go_ret
      exact ⟨rfl, rfl⟩
    · have hr : Rdr.end_ ⟨s, 0⟩ = 4 := by unfold Rdr.end_; rw [if_neg (fun h => h rfl), if_neg hs]
      rw [hr]
      have hs1 : ((s.size : Int) == 0) = false := beq_eq_false_iff_ne.2 (by omega)
      clear hr hs
      go_enter Tryz.func66, Tryz.ntmps66
      go_wp2_with fail
      refine HE.out.mono ?_
      rintro e w' ⟨rfl, rfl⟩
      go_wp2_with fail
      refine HL.out.mono ?_
      rintro e w' ⟨rfl, rfl⟩
      go_wp2_with fail
      go_ret
      exact ⟨rfl, rfl⟩
  · have hr : Rdr.end_ ⟨s, e⟩ = e := by unfold Rdr.end_; rw [if_pos (by simpa using he)]
    rw [hr]
    have he1 : (e == 0) = false := beq_eq_false_iff_ne.2 he
    have he2 : (e != 0) = true := by rw [bne, he1]; rfl
    clear hr he
    go_enter Tryz.func66, Tryz.ntmps66
    go_wp2_with fail
    refine HE.out.mono ?_
    rintro e w' ⟨rfl, rfl⟩
    go_wp2_with fail
    go_ret
    exact ⟨rfl, rfl⟩
theorem trans_b {b : Nat} {w w1 w2 : World} (h : Keeps (· = b) w w1) (g : Keeps (· = b) w1 w2) : Keeps (· = b) w w2 := h.trans' g
set_option maxRecDepth 100000 in
set_option maxHeartbeats 4000000 in
theorem RText_any (b : Nat) (R : Rdr) (most : Int) (w : World) (h : RdrAt w b R) (hs : R.s.size ≤ 9223372036854775807) :
    Calls Tryz.prog 64 #[.pointer (some ⟨b, 0, none⟩), .int .i64 most] w (RdrDone (.string (R.text most).1) b (R.text most).2 w) := by
  have HE := box (Err_any b R w h)
  have HN := box (RNum_any b R 2 w h hs)
  have hl := num_left R 2
  have hns := num_small R 2
  obtain ⟨c0, c1, f0, f1, hb⟩ := h.cells
  have H := box h
  clear h
  by_cases he : R.e = 0
  · have hr := box (show R.text most = (if ((if (R.num 2).2.e = 0 ∧ most < (R.num 2).1 then (⟨(R.num 2).2.s, 6⟩ : Rdr) else (R.num 2).2).take (R.num 2).1).2.e ≠ 0 then (((if (R.num 2).2.e = 0 ∧ most < (R.num 2).1 then (⟨(R.num 2).2.s, 6⟩ : Rdr) else (R.num 2).2).take (R.num 2).1).1, (⟨R.s, ((if (R.num 2).2.e = 0 ∧ most < (R.num 2).1 then (⟨(R.num 2).2.s, 6⟩ : Rdr) else (R.num 2).2).take (R.num 2).1).2.e⟩ : Rdr)) else ((if (R.num 2).2.e = 0 ∧ most < (R.num 2).1 then (⟨(R.num 2).2.s, 6⟩ : Rdr) else (R.num 2).2).take (R.num 2).1)) by unfold Rdr.text; rw [if_neg (fun h => h he)])
    rw [he] at c1 HE
    obtain ⟨⟨n, s1, e1⟩, hN⟩ : ∃ r, R.num 2 = r := ⟨_, rfl⟩
    rw [hN] at HN hl hns hr
    simp only at HN hl hns hr
    obtain ⟨hn0, hn1⟩ := hns
    have hsb := box (Nat.le_trans hl hs)
    have hnb : n < 9223372036854775807 := by omega
    clear hN hl he
    obtain ⟨R2, hR2⟩ : ∃ R2 : Rdr, (if e1 = 0 ∧ most < n then (⟨s1, 6⟩ : Rdr) else ⟨s1, e1⟩) = R2 := ⟨_, rfl⟩
    rw [hR2] at hr
    have hs2 : R2.s = s1 := by rw [← hR2]; split <;> rfl
    have HT := box (fun (W : World) (hW : RdrAt W b R2) => Take_any b R2 n W hW (by rw [hs2]; exact hsb.out))
    obtain ⟨⟨t, s3, e3⟩, hT⟩ : ∃ r, R2.take n = r := ⟨_, rfl⟩
    rw [hT] at hr HT
    simp only at hr HT
    clear hT hs2
    go_enter Tryz.func64, Tryz.ntmps64
    go_wp2_with fail
    refine HE.out.mono ?_
    rintro e w1 ⟨rfl, rfl⟩
    go_wp2_with fail
    refine HN.out.mono ?_
    rintro e w2 ⟨rfl, hr2, hk2⟩
    have H2 := box hr2
    have K2 := box hk2
    obtain ⟨d0, d1, g0, g1, hb2⟩ := hr2.cells
    simp only at d0 d1
    clear hr2 hk2 c0 c1 f0 f1 hb
    by_cases h1 : e1 = 0 ∧ most < n
    · obtain ⟨rfl, hmn⟩ := h1
      rw [if_pos ⟨rfl, hmn⟩] at hR2
      subst hR2
      have H3 := box (H2.out.setE 6)
      have K3 := box (K2.out.setCell (p := ⟨b, 1, none⟩) (.inl rfl) (.int .i64 6))
      go_wp2_with fail
      refine (HT.out _ H3.out).mono ?_
      rintro e w4 ⟨rfl, hr4, hk4⟩
      have H4 := box hr4
      have K4 := box (trans_b K3.out hk4)
      obtain ⟨q0, q1, r0, r1, hb4⟩ := hr4.cells
      simp only at q0 q1
      clear hr4 hk4 d0 d1 g0 g1 hb2
      by_cases h3 : e3 = 0
      · subst h3
        have hr := box (show R.text most = (t, ⟨s3, 0⟩) by rw [hr.out, if_neg (fun h => h rfl)])
        go_wp2_with fail
        go_ret
        exact ⟨by rw [hr.out]; rfl, by rw [hr.out]; exact H4.out, K4.out⟩
      · have hr := box (show R.text most = (t, ⟨R.s, e3⟩) by rw [hr.out, if_pos h3])
        have he1 : (e3 == 0) = false := beq_eq_false_iff_ne.2 h3
        have he2 : (e3 != 0) = true := by rw [bne, he1]; rfl
        have HF := box (fails_any b ⟨s3, e3⟩ e3 R.s w4 H4.out)
        clear h3
        go_wp2_with fail
        refine HF.out.mono ?_
        rintro e w5 ⟨rfl, hr5, hk5⟩
        have H5 := box hr5
        have K5 := box (trans_b K4.out hk5)
        clear hr5 hk5
        go_wp2_with fail
        go_ret
        exact ⟨by rw [hr.out]; rfl, by rw [hr.out]; exact H5.out, K5.out⟩
    · rw [if_neg h1] at hR2
      subst hR2
      have H3 := H2
      have K3 := K2
      by_cases h0 : e1 = 0
      · subst h0
        have hmn : n ≤ most := by
          have : ¬ most < n := fun h => h1 ⟨rfl, h⟩
          omega
        clear h1
        go_wp2_with fail
        refine (HT.out _ H3.out).mono ?_
        rintro e w4 ⟨rfl, hr4, hk4⟩
        have H4 := box hr4
        have K4 := box (trans_b K3.out hk4)
        obtain ⟨q0, q1, r0, r1, hb4⟩ := hr4.cells
        simp only at q0 q1
        clear hr4 hk4 d0 d1 g0 g1 hb2
        by_cases h3 : e3 = 0
        · subst h3
          have hr := box (show R.text most = (t, ⟨s3, 0⟩) by rw [hr.out, if_neg (fun h => h rfl)])
          go_wp2_with fail
          go_ret
          exact ⟨by rw [hr.out]; rfl, by rw [hr.out]; exact H4.out, K4.out⟩
        · have hr := box (show R.text most = (t, ⟨R.s, e3⟩) by rw [hr.out, if_pos h3])
          have he1 : (e3 == 0) = false := beq_eq_false_iff_ne.2 h3
          have he2 : (e3 != 0) = true := by rw [bne, he1]; rfl
          have HF := box (fails_any b ⟨s3, e3⟩ e3 R.s w4 H4.out)
          clear h3
          go_wp2_with fail
          refine HF.out.mono ?_
          rintro e w5 ⟨rfl, hr5, hk5⟩
          have H5 := box hr5
          have K5 := box (trans_b K4.out hk5)
          clear hr5 hk5
          go_wp2_with fail
          go_ret
          exact ⟨by rw [hr.out]; rfl, by rw [hr.out]; exact H5.out, K5.out⟩
      · have hz1 : (e1 == 0) = false := beq_eq_false_iff_ne.2 h0
        clear h1 h0
        go_wp2_with fail
        refine (HT.out _ H3.out).mono ?_
        rintro e w4 ⟨rfl, hr4, hk4⟩
        have H4 := box hr4
        have K4 := box (trans_b K3.out hk4)
        obtain ⟨q0, q1, r0, r1, hb4⟩ := hr4.cells
        simp only at q0 q1
        clear hr4 hk4 d0 d1 g0 g1 hb2
        by_cases h3 : e3 = 0
        · subst h3
          have hr := box (show R.text most = (t, ⟨s3, 0⟩) by rw [hr.out, if_neg (fun h => h rfl)])
          go_wp2_with fail
          go_ret
          exact ⟨by rw [hr.out]; rfl, by rw [hr.out]; exact H4.out, K4.out⟩
        · have hr := box (show R.text most = (t, ⟨R.s, e3⟩) by rw [hr.out, if_pos h3])
          have he1 : (e3 == 0) = false := beq_eq_false_iff_ne.2 h3
          have he2 : (e3 != 0) = true := by rw [bne, he1]; rfl
          have HF := box (fails_any b ⟨s3, e3⟩ e3 R.s w4 H4.out)
          clear h3
          go_wp2_with fail
          refine HF.out.mono ?_
          rintro e w5 ⟨rfl, hr5, hk5⟩
          have H5 := box hr5
          have K5 := box (trans_b K4.out hk5)
          clear hr5 hk5
          go_wp2_with fail
          go_ret
          exact ⟨by rw [hr.out]; rfl, by rw [hr.out]; exact H5.out, K5.out⟩
  · have hr : R.text most = (⟨#[]⟩, R) := by unfold Rdr.text; rw [if_pos he]
    rw [hr]
    have he1 : (R.e == 0) = false := beq_eq_false_iff_ne.2 he
    have he2 : (R.e != 0) = true := by rw [bne, he1]; rfl
    clear hr he
    go_enter Tryz.func64, Tryz.ntmps64
    go_wp2_with fail
    refine HE.out.mono ?_
    rintro e w' ⟨rfl, rfl⟩
    go_wp2_with fail
    go_ret
    exact ⟨rfl, H.out, Keeps.refl _ w⟩
end Go.Proofs.YtccbfekajbnehaaGreat.oc

/- Layer 13: a table's bytes, made and read. -/
namespace Go.Proofs.YtccbfekajbnehaaGreat.tp
open Go.ChangeShapes Go.WideShapes Go.ChangeAt Go.RowKit
open Go.Proofs.YtccbfekajbnehaaGreat.dk Go.Proofs.YtccbfekajbnehaaGreat.nm Go.Proofs.YtccbfekajbnehaaGreat.oc

/-- A topic's bytes. -/
def topL (t : TopS) : List UInt8 := textL t.name ++ low 1 t.queues.toNat
def putL (l : List TopS) : List UInt8 := low 1 l.length ++ l.flatMap topL
/-- What a table holds. -/
def TopOk (t : TopS) : Prop := plainB t.name = true ∧ 1 ≤ t.queues ∧ t.queues ≤ 3
theorem TopOk.size {t : TopS} (h : TopOk t) : t.name.size ≤ 16 := by
  have := h.1
  unfold plainB plainL at this
  simp at this
  omega
def getN : Nat → Rdr → List TopS → Option (List TopS × Rdr)
  | 0, R, l => some (l, R)
  | n + 1, R, l =>
    if ((R.text 16).2.num 1).2.e ≠ 0 ∨ rightC l ⟨(R.text 16).1, ((R.text 16).2.num 1).1⟩ ≠ 0 then none
    else getN n ((R.text 16).2.num 1).2 (l ++ [⟨(R.text 16).1, ((R.text 16).2.num 1).1⟩])
/-- The topics of bytes. -/
def getT (s : ByteArray) : Option (List TopS) :=
  match getN ((⟨s, 0⟩ : Rdr).num 1).1.toNat ((⟨s, 0⟩ : Rdr).num 1).2 [] with
  | none => none
  | some (l, R) => if R.end_ = 0 then some l else none
theorem Num1_at (x : Nat) (hx : x < 256) (W : World) : Calls Tryz.prog 70 #[.int .i64 1, .slice (some ⟨W.heap.size, 0, none⟩) 1 1] (W.alloc (.cells #[.int .i64 (x : Int)] 3)) fun e w' => e = .returned (.tuple #[.string ⟨(low 1 x).toArray⟩, .int .i64 0]) ∧ Calm W w' := by
  have hc := (Calm.refl W).alloc (.cells #[.int .i64 (x : Int)] 3)
  have h := Num_any 1 (some ⟨W.heap.size, 0, none⟩) 1 [(x : Int)] (W.alloc (.cells #[.int .i64 (x : Int)] 3)) (fun k hk => ⟨W.heap.size, 0, rfl, by simp, by
    obtain rfl : k = 0 := by simp at hk; omega
    rw [cell_of (heap_new W _)]; rfl⟩) (by simp) (fun y hy => by rw [List.mem_singleton] at hy; subst hy; omega)
  have hn : numB 1 [(x : Int)] = (⟨(low 1 x).toArray⟩, 0) := by
    unfold numB
    rw [if_neg (by omega), if_pos (by
      simp only [List.all_cons, List.all_nil, Bool.and_true]
      unfold fitsN
      rw [decide_eq_true (Int.natCast_nonneg _), decide_eq_true (show (x : Int) < 256 ^ Int.toNat 1 from (by show (x : Int) < 256; omega))]; rfl)]
    unfold lowN
    simp
  rw [hn] at h
  exact h.mono fun e w' ⟨he, hw⟩ => ⟨he, hc.trans hw⟩
theorem Text1_at (t : ByteArray) (ht : t.size ≤ 65535) (W : World) : Calls Tryz.prog 71 #[.slice (some ⟨W.heap.size, 0, none⟩) 1 1] (W.alloc (.cells #[.string t] 9)) fun e w' => e = .returned (.tuple #[.string ⟨(textL t).toArray⟩, .int .i64 0]) ∧ Calm W w' := by
  have hc := (Calm.refl W).alloc (.cells #[.string t] 9)
  have h := oc.Text_any (.slice (some ⟨W.heap.size, 0, none⟩) 1 1) [t] (W.alloc (.cells #[.string t] 9)) (StrsAt.one (by rw [cell_of (heap_new W _)]; rfl)) (by simp) (fun s hs => by rw [List.mem_singleton] at hs; subst hs; unfold maxLen; omega)
  have hn : textsB [t] = (⟨(textL t).toArray⟩, 0) := by
    unfold textsB
    rw [if_pos (by simp only [List.all_cons, List.all_nil, Bool.and_true]; unfold shortB; exact decide_eq_true (by omega))]
    unfold textsL
    simp
  rw [hn] at h
  exact h.mono fun e w' ⟨he, hw⟩ => ⟨he, hc.trans hw⟩
set_option maxRecDepth 100000 in
set_option maxHeartbeats 4000000 in
theorem put_any (v : Value) (l : List TopS) (w : World) (h : TopsAt w v l) (hl : l.length ≤ 200) (hok : ∀ t ∈ l, TopOk t) :
    Calls Tryz.prog 40 #[v] w fun e w' => e = .returned (.string ⟨(putL l).toArray⟩) ∧ Calm w w' := by
  obtain ⟨a, cap, rfl, _, hc⟩ := h
  have Hc := box hc
  have Hok := box hok
  have hnum := box (Num1_at l.length (by omega) w)
  clear hc hok
  go_enter Tryz.func40, Tryz.ntmps40
  go_wp2_with fail
  refine hnum.out.mono ?_
  rintro e w1 ⟨rfl, hc1⟩
  have HC1 := box hc1
  clear hc1 hnum
  go_wp2_with fail
  go_loopw [3, 20] (fun sv iv wr => ∃ (k : Nat) (u : ByteArray), k ≤ l.length ∧ iv = .int .i64 k ∧ sv = .string u ∧ u.size ≤ 1 + 20 * k ∧ Box (u.data.toList = low 1 l.length ++ (l.take k).flatMap topL) ∧ Calm w wr) (fun _ iv _ => l.length - (intOf iv).toNat)
  case atStart => exact ⟨0, _, Nat.zero_le _, rfl, rfl, by rw [low_size]; omega, box (by simp), HC1.out⟩
  case round =>
    clear HC1
    obtain ⟨k, u, hk, rfl, rfl, hus, HU, hcw⟩ := hrel
    have HC := box hcw
    clear hcw
    obtain ⟨wi, hwi⟩ : ∃ wi : World, wi = wr := ⟨_, rfl⟩
    subst hwi
    by_cases hlt : k < l.length
    · obtain ⟨b, off, rfl, hb, c0, c1⟩ := Hc.out k hlt
      have hok := Hok.out _ (List.getElem_mem hlt)
      have htk : (l.take (k + 1)).flatMap topL = (l.take k).flatMap topL ++ topL l[k] := by
        rw [List.take_succ_eq_append_getElem hlt, List.flatMap_append]; simp
      obtain ⟨⟨tn, tq⟩, ht⟩ : ∃ z, l[k] = z := ⟨_, rfl⟩
      simp only [ht] at c0 c1 hok htk
      have hsz := hok.size
      obtain ⟨_, hq1, hq3⟩ := hok
      simp only at hq1 hq3 hsz
      obtain ⟨q, rfl⟩ : ∃ q : Nat, tq = q := ⟨tq.toNat, by omega⟩
      have c0' := (HC.out.cell (p := ⟨b, off + k * 2, none⟩) hb).trans c0
      have c1' := (HC.out.cell (p := ⟨b, off + k * 2 + 1, none⟩) hb).trans c1
      have hb' := Nat.lt_of_lt_of_le hb HC.out.size
      have hca := (Calm.refl wi).alloc (.cells #[.string tn, .int .i64 (q : Int)] 40)
      have HCa := box hca
      have hna := heap_new wi (.cells #[.string tn, .int .i64 (q : Int)] 40)
      have Hna := box hna
      have htext := Text1_at tn (by omega) (wi.alloc (.cells #[.string tn, .int .i64 (q : Int)] 40))
      rw [World.size_alloc] at htext
      have hx1 : (⟨(textL tn).toArray⟩ : ByteArray).data.toList = textL tn := rfl
      have hx2 : (⟨(low 1 q).toArray⟩ : ByteArray).data.toList = low 1 q := rfl
      have hz1 : (⟨(textL tn).toArray⟩ : ByteArray).size ≤ 18 := by rw [← size_toList, hx1, textL_length]; omega
      have hz2 : (⟨(low 1 q).toArray⟩ : ByteArray).size = 1 := low_size 1 q
      have hnum := Num1_at q (by omega)
      have htopl : topL ⟨tn, (q : Int)⟩ = textL tn ++ low 1 q := rfl
      obtain ⟨x1, e1⟩ : ∃ x1 : ByteArray, ⟨(textL tn).toArray⟩ = x1 := ⟨_, rfl⟩
      obtain ⟨x2, e2⟩ : ∃ x2 : ByteArray, ⟨(low 1 q).toArray⟩ = x2 := ⟨_, rfl⟩
      rw [e1] at hx1 hz1 htext
      rw [e2] at hx2 hz2 hnum
      have HX := box (And.intro hx1 hx2)
      rw [htopl] at htk
      have Htext := box htext
      have Htk := box htk
      have hnum := box hnum
      clear e1 e2 hx1 hx2 htopl
      clear c0 c1 ht htk hca hna htext
      go_wp2_with fail
      refine Htext.out.mono ?_
      rintro e w2 ⟨rfl, hc2⟩
      have j2 := heap_calm hc2 Hna.out
      have r1 := cell_of j2 1
      have jlt := heap_lt j2
      have HC2 := box (HC.out.trans (HCa.out.trans hc2))
      clear hc2 j2 Htext
      go_wp2_with fail
      refine (hnum.out _).mono ?_
      rintro e w3 ⟨rfl, hc3⟩
      have HC3 := box (HC2.out.trans hc3)
      clear hc3 r1 jlt
      go_wp2_with fail
      go_roundw
      case rel => exact ⟨k + 1, _, by omega, by go_num, rfl, by rw [ByteArray.size_append, ByteArray.size_append]; omega, box (by
        rw [append_toList, append_toList, HU.out, Htk.out, HX.out.1, HX.out.2, List.append_assoc]), HC3.out⟩
      case measure => simp [intOf]; omega
    · obtain rfl : k = l.length := by omega
      have hu := HU.out
      rw [List.take_length] at hu
      have hu2 : u = ⟨(putL l).toArray⟩ := ba_ext (by rw [hu]; rfl)
      clear hu
      go_wp2_with fail
      go_ret
      exact ⟨by rw [← hu2]; rfl, HC.out⟩
end Go.Proofs.YtccbfekajbnehaaGreat.tp

/- Layer 13: a table's bytes are read. -/
namespace Go.Proofs.YtccbfekajbnehaaGreat.tp
open Go.ChangeShapes Go.WideShapes Go.ChangeAt Go.RowKit
open Go.Proofs.YtccbfekajbnehaaGreat.dk Go.Proofs.YtccbfekajbnehaaGreat.nm Go.Proofs.YtccbfekajbnehaaGreat.oc

theorem row_calm {w w' : World} {base n size : Nat} {v : Value} {e : TypeId} {xs : List Value} (h : w.ownsRow base e size v n xs) (hc : Calm w w') : w'.ownsRow base e size v n xs := own_calm h hc
/-- A row and a reader lie apart. -/
theorem row_rdr {w w' : World} {base n : Nat} {v : Value} {xs : List Value} {b : Nat} {R : Rdr} (h : w.ownsRow base 40 2 v n xs) (hr : RdrAt w b R) (hk : Keeps (· = b) w w') : w'.ownsRow base 40 2 v n xs :=
  row_same h (fun g hg => by
    obtain ⟨cur, hc⟩ := own_row h hg
    refine hk.block g (heap_lt hc) (fun hf => ?_)
    subst hf
    unfold RdrAt at hr
    rw [hc] at hr
    simp only [Option.some.injEq, Obj.cells.injEq] at hr
    exact absurd hr.2.1 (by decide))
theorem rdr_row {w w' : World} {base n : Nat} {v : Value} {xs : List Value} {b : Nat} {R : Rdr} (h : w.ownsRow base 40 2 v n xs) (hr : RdrAt w b R) (hk : Keeps (fun g => v.ownBlock = some g) w w') : RdrAt w' b R :=
  (hk.block b (heap_lt hr) (fun hf => by
    obtain ⟨cur, hc⟩ := own_row h hf
    unfold RdrAt at hr
    rw [hc] at hr
    simp only [Option.some.injEq, Obj.cells.injEq] at hr
    exact absurd hr.2.1 (by decide))).trans hr
theorem text_left (R : Rdr) (m : Int) : (R.text m).2.s.size ≤ R.s.size := by
  unfold Rdr.text
  by_cases he : R.e ≠ 0
  · rw [if_pos he]; exact Nat.le_refl _
  · rw [if_neg he]
    simp only
    have h1 := num_left R 2
    have h2 := take_left (if (R.num 2).2.e = 0 ∧ m < (R.num 2).1 then (⟨(R.num 2).2.s, 6⟩ : Rdr) else (R.num 2).2) (R.num 2).1
    have h3 : (if (R.num 2).2.e = 0 ∧ m < (R.num 2).1 then (⟨(R.num 2).2.s, 6⟩ : Rdr) else (R.num 2).2).s.size = (R.num 2).2.s.size := by split <;> rfl
    rw [h3] at h2
    obtain ⟨T, hT⟩ : ∃ T, (if (R.num 2).2.e = 0 ∧ m < (R.num 2).1 then (⟨(R.num 2).2.s, 6⟩ : Rdr) else (R.num 2).2).take (R.num 2).1 = T := ⟨_, rfl⟩
    rw [hT] at h2 ⊢
    split
    · exact Nat.le_refl _
    · exact Nat.le_trans h2 h1
def GetDone (G : Option (List TopS)) (B : Nat) (w' : World) (v : Value) (ok : Bool) : Prop := match G with
  | some l => ok = true ∧ topRow B w' v l
  | none => ok = false ∧ ∃ a m c, v = .slice a m c
set_option maxRecDepth 100000 in
set_option maxHeartbeats 8000000 in
theorem get_any (s : ByteArray) (w : World) (hs : s.size ≤ 1000000) :
    Calls Tryz.prog 37 #[.string s] w fun e w' => ∃ v ok, e = .returned (.tuple #[v, .bool ok]) ∧ GetDone (getT s) w.heap.size w' v ok ∧ Calm w w' := by
  have hnew := box (oc.New_any s w)
  go_enter Tryz.func37, Tryz.ntmps37
  go_wp2_with fail
  refine hnew.out.mono ?_
  rintro e w1 ⟨b, hb, rfl, hr, hc1⟩
  have hnum := box (RNum_any b ⟨s, 0⟩ 1 w1 hr (by simp only; omega))
  have Hb := box hb
  have HC1 := box hc1
  clear hr hc1 hb hnew
  go_wp2_with fail
  refine hnum.out.mono ?_
  rintro e w2 ⟨rfl, hr2, hk2⟩
  have hsm := num_small ⟨s, 0⟩ 1
  have hnl := num_left ⟨s, 0⟩ 1
  have HG := box (show getT s = match getN ((⟨s, 0⟩ : Rdr).num 1).1.toNat ((⟨s, 0⟩ : Rdr).num 1).2 [] with
    | none => none
    | some (l, R) => if R.end_ = 0 then some l else none from rfl)
  obtain ⟨⟨z, R0⟩, hz⟩ : ∃ z, (⟨s, 0⟩ : Rdr).num 1 = z := ⟨_, rfl⟩
  rw [hz] at hsm hnl hr2 HG ⊢
  simp only at hsm hnl hr2 HG ⊢
  obtain ⟨N, rfl⟩ : ∃ N : Nat, z = N := ⟨z.toNat, by omega⟩
  have hN : N < 72057594037927936 := by omega
  rw [Int.toNat_natCast] at HG
  obtain ⟨G, hG⟩ : ∃ G, getN N R0 [] = G := ⟨_, rfl⟩
  rw [hG] at HG
  have HGN := box hG
  have HR2 := box hr2
  have hRs : R0.s.size ≤ 1000000 := by omega
  have HC2 := box (Below.trans HC1.out (hk2.below HC1.out.size (fun x e => by have := Hb.out; omega)))
  clear hz hsm hnl hr2 hk2 hnum hG
  go_wp2_with fail
  go_loopw [5, 11] (fun lv iv wr => ∃ (i : Nat) (R : Rdr) (l : List TopS), i ≤ N ∧ iv = .int .i64 i ∧ l.length ≤ 6 ∧ Box (getN (N - i) R l = G) ∧ R.s.size ≤ 1000000 ∧ RdrAt wr b R ∧ topRow w.heap.size wr lv l ∧ Calm w wr) (fun _ iv _ => N - (intOf iv).toNat)
  case atStart => exact ⟨0, R0, [], Nat.zero_le _, rfl, Nat.zero_le _, box HGN.out, hRs, HR2.out, World.ownsRow_nil _ _ _ _, HC2.out⟩
  case round =>
    clear HC2 HR2 HGN
    obtain ⟨i, R, l, hi, rfl, hl6, HB, hRs, hR, hrow, hcw⟩ := hrel
    have HR := box hR
    have Hrow := box hrow
    have HC := box hcw
    obtain ⟨la, lcap, hlv, _⟩ := hrow.tops
    subst hlv
    clear hR hrow hcw
    obtain ⟨wi, hwi⟩ : ∃ wi : World, wi = wr := ⟨_, rfl⟩
    subst hwi
    by_cases hlt : i < N
    · have htx := box (RText_any b R 16 wi HR.out (by omega))
      have htl := text_left R 16
      have hB := HB.out
      rw [show N - i = (N - (i + 1)) + 1 by omega] at hB
      unfold getN at hB
      obtain ⟨⟨x, R1⟩, hx⟩ : ∃ x, R.text 16 = x := ⟨_, rfl⟩
      rw [hx] at htx htl hB
      simp only at htl hB
      have hn1 := box (fun (W : World) (h : RdrAt W b R1) => RNum_any b R1 1 W h (by omega))
      have hnl := num_left R1 1
      have hns := num_small R1 1
      obtain ⟨⟨y, R2⟩, hy⟩ : ∃ y, R1.num 1 = y := ⟨_, rfl⟩
      rw [hy] at hn1 hnl hns hB
      simp only at hnl hns hB
      have HB2 := box hB
      clear hx hy hB HB
      go_wp2_with fail
      refine htx.out.mono ?_
      rintro e w3 ⟨rfl, hr3, hk3⟩
      have HR3 := box hr3
      have Hrow3 := box (row_rdr Hrow.out HR.out hk3)
      have HC3 := box (Below.trans HC.out (hk3.below HC.out.size (fun x e => by have := Hb.out; have := HC1.out.size; omega)))
      clear hr3 hk3 htx
      go_wp2_with fail
      refine (hn1.out _ HR3.out).mono ?_
      rintro e w4 ⟨rfl, hr4, hk4⟩
      have Hrow4 := box (row_rdr Hrow3.out HR3.out hk4)
      have HC4 := box (Below.trans HC3.out (hk4.below HC3.out.size (fun x e => by have := Hb.out; have := HC1.out.size; omega)))
      have hca := (Calm.refl w4).alloc (.cells #[.string x, .int .i64 y] 40)
      have Hna := box (heap_new w4 (.cells #[.string x, .int .i64 y] 40))
      have HR4 := box (hr4.calm hca)
      have HR4' := box hr4
      have HCa := box hca
      have herr := box (Err_any b R2 _ HR4.out)
      clear hr4 hk4 hca hn1
      go_wp2_with fail
      refine herr.out.mono ?_
      rintro e w5 ⟨rfl, rfl⟩
      by_cases h0 : R2.e = 0
      · rw [h0]
        have hri := box (right_any _ l ⟨x, y⟩ _ ((topRow.tops Hrow4.out).calm HCa.out) (by omega))
        simp only at hri
        obtain ⟨c, hc⟩ : ∃ c, rightC l ⟨x, y⟩ = c := ⟨_, rfl⟩
        rw [hc] at hri
        have r0 := cell_of Hna.out 0
        have r1 := cell_of Hna.out 1
        have jlt := heap_lt Hna.out
        have Hc := box hc
        have H0 := box h0
        clear h0 hc
        go_wp2_with fail
        refine hri.out.mono ?_
        rintro e w6 ⟨rfl, hc6⟩
        have j6 := heap_calm hc6 Hna.out
        have HC6 := box hc6
        clear hc6 hri r0 r1 jlt
        by_cases hc0 : c = 0
        · subst hc0
          have r0 := cell_of j6 0
          have r1 := cell_of j6 1
          have jlt := heap_lt j6
          have hl5 : l.length ≤ 5 := by
            have h1 := Hc.out
            unfold rightC at h1
            split at h1; cases h1
            split at h1; cases h1
            split at h1; cases h1
            split at h1; cases h1
            omega
          have hrow6 := own_calm (own_calm Hrow4.out HCa.out) HC6.out
          have hsz6 := Nat.le_trans HC4.out.size (Nat.le_trans HCa.out.size HC6.out.size)
          obtain ⟨v', w7, happ, hrow7, hk7⟩ := append_top w.heap.size w6 _ l ⟨x, y⟩ hrow6 hsz6 (by omega) 35
          have HR7 := box (rdr_row hrow6 (HR4.out.calm HC6.out) hk7)
          have HC7 := box (Below.trans (Calm.trans HC4.out (Calm.trans HCa.out HC6.out)) (hk7.below hsz6 (fun g hg => (hrow6.lt g hg).1)))
          have HB7 := box (show getN (N - (i + 1)) R2 (l ++ [⟨x, y⟩]) = G by
            have h1 := HB2.out
            rw [if_neg (fun hx => hx.elim (fun h => h H0.out) (fun h => h Hc.out))] at h1
            exact h1)
          have Happ := box happ
          have Hrow7 := box hrow7
          clear happ hrow7 hk7 hrow6 j6
          simp only at Happ
          go_wp2_with (first | (at_builtin; refine Lib.wpList_append_run _ rfl _ _ _ _ rfl _ _ rfl rfl _ _ Happ.out ?_) | fail)
          go_roundw
          case rel => exact ⟨i + 1, R2, l ++ [⟨x, y⟩], by omega, by go_num, by rw [List.length_append, List.length_singleton]; omega, HB7, by omega, HR7.out, Hrow7.out, HC7.out⟩
          case measure => simp [intOf]; omega
        · have hne : (c == 0) = false := beq_eq_false_iff_ne.2 hc0
          have hne2 : (c != 0) = true := by simp [bne, hne]
          have hGn : G = none := by
            have h1 := HB2.out
            rw [if_pos (.inr (fun h => hc0 (Hc.out.symm.trans h)))] at h1
            exact h1.symm
          have HGn := box hGn
          clear hGn
          go_wp2_with fail
          go_ret2
          refine ⟨_, false, rfl, ?_, Calm.trans HC4.out (Calm.trans HCa.out HC6.out)⟩
          rw [HG.out, HGn.out]; exact ⟨rfl, _, _, _, rfl⟩
      · have hne : (R2.e == 0) = false := beq_eq_false_iff_ne.2 h0
        have hne2 : (R2.e != 0) = true := by simp [bne, hne]
        have hGn : G = none := by
          have h1 := HB2.out
          rw [if_pos (.inl h0)] at h1
          exact h1.symm
        have HGn := box hGn
        clear hGn
        go_wp2_with fail
        go_ret2
        refine ⟨_, false, rfl, ?_, Calm.trans HC4.out HCa.out⟩
        rw [HG.out, HGn.out]; exact ⟨rfl, _, _, _, rfl⟩
    · obtain rfl : i = N := by omega
      have hend := box (End_any b R wi HR.out)
      have hG := HB.out
      rw [Nat.sub_self] at hG
      have hGs : G = some (l, R) := hG.symm
      have HGs := box hGs
      clear hG hGs
      obtain ⟨z, hz⟩ : ∃ z, R.end_ = z := ⟨_, rfl⟩
      rw [hz] at hend
      have Hz := box hz
      clear hz
      go_wp2_with fail
      refine hend.out.mono ?_
      rintro e w5 ⟨rfl, rfl⟩
      go_wp2_with fail
      go_ret2
      refine ⟨_, z == 0, rfl, ?_, HC.out⟩
      rw [HG.out, HGs.out]
      simp only
      rw [Hz.out]
      by_cases h0 : z = 0
      · rw [if_pos h0]
        exact ⟨beq_iff_eq.2 h0, Hrow.out⟩
      · rw [if_neg h0]
        exact ⟨beq_eq_false_iff_ne.2 h0, _, _, _, rfl⟩
end Go.Proofs.YtccbfekajbnehaaGreat.tp
