/- Layer 13: Save and Load, as what the disk does. -/
import Derived.Test.YtccbfekajbnehaaGreatRows
import Derived.WalkKit
import Derived.ProofKit
import Derived.OpenShut
import Derived.Handy
import Derived.Deep.LoopGhost
import Derived.Lib.Hide
import Derived.Lib.Strings
import Derived.SizedLaws
import Derived.Maps.Own
import Derived.Maps.OwnOps
import Derived.Maps.OwnSet
import Derived.Maps.RangeWalk
import Derived.Deep.QuietTactic
import Derived.BigQuiet
import Derived.Deep.RegionHeld3
import Derived.Lib.ConvBytes
import Derived.Lib.AppendZeros
import Derived.Lib.AppendZerosOnto
import Derived.Lib.LazyBuf
import Derived.Shelf.Abstract
import Derived.LaidEql
import Derived.Lib.SliceRun
import Derived.StillTailTactics
import Derived.Deep.Slices
import Derived.Shelf.Strings.Builder1
import Derived.Shelf.Small.Bits
import Derived.Shelf.Small.Wraps
import Derived.Shelf.Strings.BuilderF
import Derived.Shelf.Strings.BuilderK
import Derived.Shelf.Strconv.Itoa0
import Derived.Shelf.Sort.Plain
import Derived.Shelf.GgClosure.StringsIndexFunc
import Derived.Ground.GgwProg
import Derived.Shelf.GgClosure.StringsIndexFuncTop
import Derived.Shelf.GgClosure.StringsRunes
import Derived.Shelf.Strings.Prefix
import Derived.Shelf.Strings.BuilderCap
import Derived.Shelf.Slices.In.SortNone
import Derived.Ground.SlgfProg
import Derived.Shelf.SlicesE.IndexFunc
import Derived.Shelf.SlicesE.DeleteFunc
import Derived.Test.YtccbfekajbnehaaGreatProg
import Derived.Lib.DecodeN
import Derived.Shelf.SlicesQ.IndexFunc
import Derived.Shelf.SlicesE.Clone
import Derived.Ground.SlgnProg
import Derived.Laws.MakeOwn
import Derived.Lib.Builder
import Derived.Lib.AppendStr
import Derived.Laws.Rows
import Derived.Shelf.SlIter.Nil
import Derived.Ground.GgzProg
import Derived.Shelf.SortM.Plain
import Derived.Shelf.SortM.SortNone
import Derived.Ground.SlgmProg
import Derived.Laws.BitsLemmas
import Derived.Laws.ResultCell
import Derived.Laws.StructEq
import Derived.Laws.Cover3
import Derived.OwnWalk
import Derived.Deep.DeepCutAuto
import Derived.Test.YtccbfekajbnehaaGreatPk22
namespace Go.Proofs.YtccbfekajbnehaaGreat.tp
open Go.ChangeShapes Go.WideShapes Go.ChangeAt Go.RowKit
open Go.Proofs.YtccbfekajbnehaaGreat.oc Go.Proofs.YtccbfekajbnehaaGreat.dk Go.Proofs.YtccbfekajbnehaaGreat.cr Go.Proofs.YtccbfekajbnehaaGreat.rc

abbrev freshN : ByteArray := ⟨#[46, 110, 101, 119]⟩
def sealB (s : ByteArray) : ByteArray := ⟨(sealL s.data.toList).toArray⟩
theorem sealB_size (s : ByteArray) : (sealB s).size = s.size + 4 := by
  unfold sealB sealL
  rw [show ∀ l : List UInt8, (⟨l.toArray⟩ : ByteArray).size = l.length from fun l => by simp [ByteArray.size], List.length_append, low_length, size_toList]
  omega
theorem names_len (D : DiskS) (hd : ByteArray) (hl : D.files.length ≤ 1000000) : (D.names hd).length ≤ 1000000 := by
  unfold DiskS.names DiskS.namesL
  rw [List.length_map]
  refine Nat.le_trans (List.length_filter_le _ _) ?_
  simpa using hl
theorem has_iff (D : DiskS) (nx : ByteArray) : D.has nx = true ↔ ∃ f ∈ D.files, f.name = nx := by
  unfold DiskS.has DiskS.find
  rw [List.find?_isSome]
  simp
theorem names_self (D : DiskS) (nx : ByteArray) : ((D.names nx).any fun x => decide (x = nx)) = D.has nx := by
  rw [Bool.eq_iff_iff, List.any_eq_true, has_iff]
  unfold DiskS.names DiskS.namesL
  constructor
  · rintro ⟨x, hx, he⟩
    obtain ⟨l, hl, hlx⟩ := List.mem_map.1 hx
    have h1 := (List.mem_filter.1 hl).1
    rw [List.mem_mergeSort] at h1
    obtain ⟨f, hf, hfl⟩ := List.mem_map.1 h1
    exact ⟨f, hf, by rw [← of_decide_eq_true he, ← hlx, ← hfl]⟩
  · rintro ⟨f, hf, rfl⟩
    refine ⟨f.name, List.mem_map.2 ⟨f.name.data.toList, List.mem_filter.2 ⟨?_, ?_⟩, rfl⟩, decide_eq_true rfl⟩
    · rw [List.mem_mergeSort]
      exact List.mem_map.2 ⟨f, hf, rfl⟩
    · unfold Lib.hasPrefix
      exact List.isPrefixOf_iff_prefix.2 (List.prefix_refl _)
/-- What was there under the new name goes. -/
def clearD (D : DiskS) (nx : ByteArray) : Int × DiskS := if D.has nx = true then D.delete [nx] else (0, D)
/-- Behind the laying. -/
def endD (r : Int × DiskS) (nx nm : ByteArray) : Int × DiskS :=
  if r.1 ≠ 0 then (r.1, if r.1 ≠ 8 then (r.2.delete [nx]).2 else r.2) else r.2.rename nx nm
def saveD (D : DiskS) (nm s : ByteArray) (b : Nat) : Int × DiskS :=
  if (clearD D (nm ++ freshN)).1 ≠ 0 then clearD D (nm ++ freshN) else
  endD (laidD (clearD D (nm ++ freshN)).2 (nm ++ freshN) (sealB s) b) (nm ++ freshN) nm
section
variable {p n : Nat} {D : DiskS} {F : Nat → Prop}
def SaveDone (D : DiskS) (nm s : ByteArray) (p : Nat) (F : Nat → Prop) (n : Nat) (w : World) (e : Ending) (w' : World) : Prop := ∃ b, w.heap.size ≤ b ∧ OkDone (saveD D nm s b) p F (n + 1) w e w'
set_option maxRecDepth 100000 in
set_option maxHeartbeats 8000000 in
theorem Save_any (nm s : ByteArray) (w : World) (h : DiskOk w p D F n) (hn : n ≤ 999980) (hs : s.size ≤ 1000000) (hnm : nm.size ≤ 1000) (hf : ∀ f ∈ D.files, f.name.size ≤ maxLen) (hl : D.files.length ≤ 1000000) :
    Calls Tryz.prog 9 #[ptrTo p, .string nm, .string s] w (SaveDone D nm s p F n w) := by
  have hlist := box (List_any (nm ++ freshN) w h.lies hf hl)
  have hnl := names_len D (nm ++ freshN) hl
  have hself := box (names_self D (nm ++ freshN))
  have H := box h
  have hsz : (nm ++ freshN).size = nm.size + 4 := by rw [ByteArray.size_append]; rfl
  clear h hf hl
  have hsv := box (show ∀ b, saveD D nm s b = if (clearD D (nm ++ freshN)).1 ≠ 0 then clearD D (nm ++ freshN) else endD (laidD (clearD D (nm ++ freshN)).2 (nm ++ freshN) (sealB s) b) (nm ++ freshN) nm from fun b => rfl)
  obtain ⟨nx, hnx⟩ : ∃ nx, nm ++ freshN = nx := ⟨_, rfl⟩
  unfold ListDone at hlist
  rw [hnx] at hlist hnl hself hsz hsv
  obtain ⟨l, hl⟩ : ∃ l, D.names nx = l := ⟨_, rfl⟩
  rw [hl] at hlist hnl hself
  clear hl
  have hnx2 : nm ++ (⟨#[46, 110, 101, 119]⟩ : ByteArray) = nx := hnx
  clear hnx
  have hseal := box (sealB_size s)
  go_enter Tryz.func9, Tryz.ntmps9
  go_wp2_with fail
  refine hlist.out.mono ?_
  rintro e w1 ⟨v, rfl, hv, hc1, _⟩
  have hcon := box (ContainsS_any v l nx w1 hv (by omega))
  have HC1 := box hc1
  obtain ⟨va, vc, rfl, _⟩ := hv.uni
  clear hv hc1 hlist
  go_wp2_with fail
  refine hcon.out.mono ?_
  rw [hself.out]
  rintro e w2 ⟨rfl, hc2⟩
  have HC2 := box (HC1.out.trans hc2)
  clear hc2 hcon hself
  go_upto_if 18 with fail
  go_cut [8] (fun _ wx => (clearD D nx).1 = 0 ∧ ∃ F1, DiskOk wx p (clearD D nx).2 F1 n ∧ Step F w F1 wx)
  case first =>
    by_cases hh : D.has nx = true
    · have Hcd := box (show clearD D nx = D.delete [nx] by unfold clearD; rw [if_pos hh])
      have hdel := box (Delete_one nx w2 (H.out.calm HC2.out) (by omega))
      rw [hh]
      clear hh
      obtain ⟨r, hr⟩ : ∃ r, D.delete [nx] = r := ⟨_, rfl⟩
      rw [hr] at hdel Hcd
      clear hr
      obtain ⟨c, D1⟩ := r
      go_wp2_with fail
      refine hdel.out.mono ?_
      rintro e w3 ⟨rfl, F1, h1, hs1⟩
      have H1 := box h1
      have S1 := box (Step.calm_left HC2.out hs1)
      clear h1 hs1 hdel
      by_cases hc : c = 0
      · subst hc
        go_wp2_with fail
        go_meet
        rw [Hcd.out]
        exact ⟨rfl, F1, H1.out, S1.out⟩
      · have hne : (c == 0) = false := beq_eq_false_iff_ne.2 hc
        have hne2 : (c != 0) = true := by simp [bne, hne]
        go_wp2_with fail
        go_ret
        refine ⟨w.heap.size, Nat.le_refl _, ?_⟩
        rw [hsv.out, Hcd.out, if_pos hc]
        exact ⟨rfl, F1, H1.out.mono (by omega), S1.out⟩
    · have Hcd := box (show clearD D nx = (0, D) by unfold clearD; rw [if_neg hh])
      rw [Bool.eq_false_iff.2 hh]
      clear hh
      go_wp2_with fail
      go_meet
      rw [Hcd.out]
      exact ⟨rfl, F, H.out.calm HC2.out, Step.of_calm HC2.out⟩
  case rest =>
    obtain ⟨hc0, F1, h1, hs1⟩ := hcut
    have H1 := box h1
    have S1 := box hs1
    have Hc0 := box hc0
    clear h1 hs1 hc0 H HC1 HC2
    obtain ⟨⟨z, D1⟩, hr⟩ : ∃ r, clearD D nx = r := ⟨_, rfl⟩
    rw [hr] at H1 Hc0
    obtain rfl : z = 0 := Hc0.out
    have hsv2 := box (show ∀ b, saveD D nm s b = endD (laidD D1 nx (sealB s) b) nx nm from fun b => by rw [hsv.out, hr, if_neg (fun h => h rfl)])
    clear hr Hc0 hsv
    simp only at H1
    go_wp2_with fail
    refine (cr.New_any _).mono ?_
    rintro e w4 ⟨t, rfl, ht, _, hc4⟩
    have hse := box (Seal_any t s w4 ht hs)
    have HC4 := box hc4
    clear ht hc4
    go_wp2_with fail
    refine hse.out.mono ?_
    rintro e w5 ⟨rfl, hc5⟩
    have HC5 := box (HC4.out.trans hc5)
    clear hc5 hse
    have hlaid := box (laid_any nx (sealB s) w5 (H1.out.calm HC5.out) (by omega) (by rw [hseal.out]; omega))
    unfold sealB at hlaid
    go_wp2_with fail
    refine hlaid.out.mono ?_
    rintro e w6 ⟨b, hb, rfl, F2, h2, hs2⟩
    have Hb := box (Nat.le_trans (Nat.le_trans S1.out.keeps.size HC5.out.size) hb)
    have S2 := box (S1.out.trans (Step.calm_left HC5.out hs2))
    have H2 := box h2
    clear hb hs2 h2 hlaid
    obtain ⟨⟨c, D2⟩, hr⟩ : ∃ r, laidD D1 nx ⟨(sealL s.data.toList).toArray⟩ b = r := ⟨_, rfl⟩
    rw [hr] at H2
    have Hr := box (show saveD D nm s b = endD (c, D2) nx nm by rw [hsv2.out, show laidD D1 nx (sealB s) b = (c, D2) from hr])
    rw [hr]
    clear hr hsv2
    simp only at H2
    by_cases hc : c = 0
    · subst hc
      have hren := box (Rename_ok nx nm w6 H2.out (by omega))
      go_wp2_with fail
      refine hren.out.mono ?_
      rintro e w7 ⟨rfl, F3, h3, hs3⟩
      have H3 := box h3
      have S3 := box (S2.out.trans hs3)
      clear h3 hs3 hren
      go_wp2_with fail
      go_ret
      refine ⟨b, Hb.out, ?_⟩
      rw [Hr.out]
      unfold endD
      simp only [ne_eq, not_true_eq_false, if_false]
      exact ⟨rfl, F3, H3.out, S3.out⟩
    · have hne : (c == 0) = false := beq_eq_false_iff_ne.2 hc
      have hne2 : (c != 0) = true := by simp [bne, hne]
      by_cases h8 : c = 8
      · subst h8
        go_wp2_with fail
        go_ret
        refine ⟨b, Hb.out, ?_⟩
        rw [Hr.out]
        exact ⟨rfl, F2, H2.out, S2.out⟩
      · have hn8 : (c == 8) = false := beq_eq_false_iff_ne.2 h8
        have hn82 : (c != 8) = true := by simp [bne, hn8]
        have hdel := box (Delete_one nx w6 H2.out (by omega))
        go_wp2_with fail
        refine hdel.out.mono ?_
        rintro e w7 ⟨rfl, F3, h3, hs3⟩
        have H3 := box h3
        have S3 := box (S2.out.trans hs3)
        clear h3 hs3 hdel
        go_wp2_with fail
        go_ret
        refine ⟨b, Hb.out, ?_⟩
        rw [Hr.out]
        unfold endD
        simp only [ne_eq, hc, h8, not_false_eq_true, if_true]
        exact ⟨rfl, F3, H3.out, S3.out⟩
end
/-- What Load tells. -/
def loadD (D : DiskS) (nm : ByteArray) : ByteArray × Bool × Int :=
  if (D.all nm).2 = 9 then (⟨#[]⟩, false, 0) else if (D.all nm).2 ≠ 0 then (⟨#[]⟩, false, (D.all nm).2) else
  match openSeal (D.all nm).1 with
  | none => (⟨#[]⟩, false, 4)
  | some t => (t, true, 0)
section
variable {p n : Nat} {D : DiskS} {F : Nat → Prop}
set_option maxRecDepth 100000 in
set_option maxHeartbeats 8000000 in
theorem Load_any (nm : ByteArray) (w : World) (h : DiskOk w p D F n) (hs : (D.all nm).1.size ≤ 1000000) :
    Calls Tryz.prog 10 #[ptrTo p, .string nm] w fun e w' => e = .returned (.tuple #[.string (loadD D nm).1, .bool (loadD D nm).2.1, .int .i64 (loadD D nm).2.2]) ∧ Calm w w' := by
  have hall := box (All_any w nm h.lies)
  clear h
  unfold loadD
  obtain ⟨⟨u, c⟩, hr⟩ : ∃ r, D.all nm = r := ⟨_, rfl⟩
  rw [hr] at hall hs ⊢
  simp only at hall hs ⊢
  clear hr
  by_cases h9 : c = 9
  · subst h9
    simp only [if_true]
    go_enter Tryz.func10, Tryz.ntmps10
    go_wp2_with fail
    refine hall.out.mono ?_
    rintro e w1 ⟨rfl, hc⟩
    have HC := box hc
    clear hc hall
    go_wp2_with fail
    go_ret3
    exact ⟨rfl, HC.out⟩
  have n9 : (c == 9) = false := beq_eq_false_iff_ne.2 h9
  rw [if_neg h9]
  by_cases h0 : c = 0
  · subst h0
    simp only [ne_eq, not_true_eq_false, if_false]
    have hop := box (fun (t : Nat) (W : World) (ht : TabAt W t 1024) => Open_any t u W ht hs)
    obtain ⟨o, ho⟩ : ∃ o, openSeal u = o := ⟨_, rfl⟩
    rw [ho] at hop ⊢
    clear ho
    cases o
    all_goals
      unfold openV at hop
      simp only at hop ⊢
      go_enter Tryz.func10, Tryz.ntmps10
      go_wp2_with fail
      refine hall.out.mono ?_
      rintro e w1 ⟨rfl, hc⟩
      have HC := box hc
      clear hc hall
      go_wp2_with fail
      refine (cr.New_any _).mono ?_
      rintro e w2 ⟨t, rfl, ht, _, hc2⟩
      have hop2 := box (hop.out t w2 ht)
      have HC2 := box (HC.out.trans hc2)
      clear ht hc2 hop
      go_wp2_with fail
      refine hop2.out.mono ?_
      rintro e w3 ⟨rfl, hc3⟩
      have HC3 := box (HC2.out.trans hc3)
      clear hc3 hop2
      go_wp2_with fail
      go_ret3
      exact ⟨rfl, HC3.out⟩
  · have n0 : (c == 0) = false := beq_eq_false_iff_ne.2 h0
    have n1 : (c != 0) = true := by simp [bne, n0]
    rw [if_pos h0]
    go_enter Tryz.func10, Tryz.ntmps10
    go_wp2_with fail
    refine hall.out.mono ?_
    rintro e w1 ⟨rfl, hc⟩
    have HC := box hc
    clear hc hall
    go_wp2_with fail
    go_ret3
    exact ⟨rfl, HC.out⟩
end
end Go.Proofs.YtccbfekajbnehaaGreat.tp

/- Layer 13, plain laws: what a save that has room leaves. -/
namespace Go.Proofs.YtccbfekajbnehaaGreat.tp
open Go.ChangeShapes Go.WideShapes Go.ChangeAt Go.RowKit
open Go.Proofs.YtccbfekajbnehaaGreat.oc Go.Proofs.YtccbfekajbnehaaGreat.dk Go.Proofs.YtccbfekajbnehaaGreat.rc
section
variable {D : DiskS}
theorem find_none_of {n : ByteArray} (h : D.has n = false) : ∀ f ∈ D.files, f.name ≠ n := fun f hf e => by
  have : D.has n = true := (has_iff D n).2 ⟨f, hf, e⟩
  rw [h] at this; cases this
theorem laid_empty (s : ByteArray) : laid ⟨#[]⟩ 0 s = s := ba_ext (bytes_end ⟨#[]⟩ s)
theorem find_last {L : List FileS} {n : ByteArray} (h : ∀ f ∈ L, f.name ≠ n) (x : FileS) (hx : x.name = n) : (L ++ [x]).find? (fun f => decide (f.name = n)) = some x := by
  rw [List.find?_append]
  have : L.find? (fun f => decide (f.name = n)) = none := List.find?_eq_none.2 (fun f hf => by simpa using h f hf)
  rw [this]
  simp [hx]
theorem turn_last {L : List FileS} {n : ByteArray} (h : ∀ f ∈ L, f.name ≠ n) (x : FileS) (hx : x.name = n) (g : FileS → FileS) : ((L ++ [x]).map fun y => if y.name = n then g y else y) = L ++ [g x] := by
  rw [List.map_append]
  congr 1
  · conv => rhs; rw [← List.map_id L]
    exact List.map_congr_left (fun f hf => if_neg (h f hf))
  · simp [hx]
theorem laid_ok (h : Alive D) {n : ByteArray} (hx : D.has n = false) (s : ByteArray) (hs0 : 0 < s.size) (hroom : (s.size : Int) ≤ D.cap - D.size) (b : Nat) :
    laidD D n s b = (0, { D with files := D.files ++ [⟨n, b, s, s⟩], waits := (D.waits ++ [(⟨b, 0, s⟩ : WaitS)]).filter (fun x => !decide (x.blk = b)) }) := by
  have hno := find_none_of hx
  have hcr : D.create n b = (0, { D with files := D.files ++ [⟨n, b, ⟨#[]⟩, ⟨#[]⟩⟩] }) := by
    unfold DiskS.create; rw [if_neg (by rw [h.down]; exact Bool.false_ne_true), if_neg (by rw [hx]; exact Bool.false_ne_true), h.doing]
  have a1 : Alive { D with files := D.files ++ [⟨n, b, ⟨#[]⟩, ⟨#[]⟩⟩] } := ⟨h.left, h.down⟩
  have hsz : DiskS.size { D with files := D.files ++ [⟨n, b, ⟨#[]⟩, ⟨#[]⟩⟩] } = D.size := by
    unfold DiskS.size; rw [total_append]; rfl
  have hwr : DiskS.write { D with files := D.files ++ [⟨n, b, ⟨#[]⟩, ⟨#[]⟩⟩] } n 0 s = (0, { D with files := D.files ++ [⟨n, b, ⟨#[]⟩, s⟩], waits := D.waits ++ [(⟨b, 0, s⟩ : WaitS)] }) := by
    unfold DiskS.write
    rw [if_neg (by rw [a1.down]; decide)]
    unfold DiskS.find
    rw [show List.find? (fun f : FileS => decide (f.name = n)) (D.files ++ [⟨n, b, ⟨#[]⟩, ⟨#[]⟩⟩]) = some ⟨n, b, ⟨#[]⟩, ⟨#[]⟩⟩ from find_last hno _ rfl]
    simp only
    rw [hsz]
    have h0 : (⟨#[]⟩ : ByteArray).size = 0 := rfl
    rw [if_neg (by rw [h0]; omega), if_neg (by rw [h0]; omega), a1.doing, if_neg (by omega)]
    unfold DiskS.turn
    simp only [turn_last hno ⟨n, b, ⟨#[]⟩, ⟨#[]⟩⟩ rfl]
    rw [show Int.toNat 0 = 0 from rfl, laid_empty]
  have a2 : Alive { D with files := D.files ++ [⟨n, b, ⟨#[]⟩, s⟩], waits := D.waits ++ [(⟨b, 0, s⟩ : WaitS)] } := ⟨h.left, h.down⟩
  have hsy : DiskS.sync { D with files := D.files ++ [⟨n, b, ⟨#[]⟩, s⟩], waits := D.waits ++ [(⟨b, 0, s⟩ : WaitS)] } [n] = (0, { D with files := D.files ++ [⟨n, b, s, s⟩], waits := (D.waits ++ [(⟨b, 0, s⟩ : WaitS)]).filter (fun x => !decide (x.blk = b)) }) := by
    have hb : DiskS.bars { D with files := D.files ++ [⟨n, b, ⟨#[]⟩, s⟩], waits := D.waits ++ [(⟨b, 0, s⟩ : WaitS)] } [n] = 0 := by
      rw [bars_one, if_neg (by rw [a2.down]; decide), if_pos ((has_iff _ n).2 ⟨⟨n, b, ⟨#[]⟩, s⟩, by simp, rfl⟩)]
    unfold DiskS.sync
    rw [if_neg (by rw [hb]; decide), a2.doing]
    simp only [List.foldl_cons, List.foldl_nil]
    unfold DiskS.last DiskS.find
    simp only [find_last hno ⟨n, b, ⟨#[]⟩, s⟩ rfl]
    unfold DiskS.turn DiskS.without
    simp only [turn_last hno ⟨n, b, ⟨#[]⟩, s⟩ rfl]
  unfold laidD
  rw [hcr]
  simp only [ne_eq, not_true_eq_false, if_false]
  rw [hwr]
  simp only [ne_eq, not_true_eq_false, if_false]
  exact hsy
/-- What a save that has room leaves. -/
theorem save_ok (h : Alive D) {nm : ByteArray} (hx : D.has (nm ++ freshN) = false) (hne : nm ++ freshN ≠ nm) (s : ByteArray) (hroom : ((s.size + 4 : Nat) : Int) ≤ D.cap - D.size) (b : Nat) :
    ∃ W', saveD D nm s b = (0, { D with files := (D.files.filter fun x => !decide (x.name = nm)) ++ [⟨nm, b, sealB s, sealB s⟩], waits := W' }) ∧ ∀ x ∈ W', x ∈ D.waits ∧ x.blk ≠ b := by
  have hno := find_none_of hx
  obtain ⟨nx, hnx⟩ : ∃ nx, nm ++ freshN = nx := ⟨_, rfl⟩
  have hl := laid_ok h hx (sealB s) (by rw [sealB_size]; omega) (by rw [sealB_size]; exact hroom) b
  have hc : clearD D nx = (0, D) := by unfold clearD; rw [← hnx, if_neg (by rw [hx]; decide)]
  unfold saveD
  rw [hnx] at hl hno hne ⊢
  rw [hc]
  simp only [ne_eq, not_true_eq_false, if_false]
  rw [hl]
  unfold endD
  simp only [ne_eq, not_true_eq_false, if_false]
  unfold DiskS.rename
  have a3 : Alive { D with files := D.files ++ [⟨nx, b, sealB s, sealB s⟩], waits := (D.waits ++ [(⟨b, 0, sealB s⟩ : WaitS)]).filter (fun x => !decide (x.blk = b)) } := ⟨h.left, h.down⟩
  rw [if_neg (by rw [a3.down]; decide)]
  have hfd : DiskS.find { D with files := D.files ++ [⟨nx, b, sealB s, sealB s⟩], waits := (D.waits ++ [(⟨b, 0, sealB s⟩ : WaitS)]).filter (fun x => !decide (x.blk = b)) } nx = some ⟨nx, b, sealB s, sealB s⟩ := find_last hno ⟨nx, b, sealB s, sealB s⟩ rfl
  rw [hfd]
  simp only
  rw [a3.doing, if_neg hne]
  have hfl : ∀ L : List FileS, (∀ f ∈ L, f.name ≠ nx) → ((L ++ [(⟨nx, b, sealB s, sealB s⟩ : FileS)]).filter fun x => !decide (x.name = nx)) = L := fun L hL => by
    rw [List.filter_append, List.filter_eq_self.2 (fun f hf => by simpa using hL f hf)]
    simp
  have hf1 : ((D.files ++ [(⟨nx, b, sealB s, sealB s⟩ : FileS)]).filter fun x => !decide (x.name = nm)) = (D.files.filter fun x => !decide (x.name = nm)) ++ [⟨nx, b, sealB s, sealB s⟩] := by
    rw [List.filter_append]
    simp [hne]
  unfold DiskS.drop
  cases hfm : DiskS.find { D with files := D.files ++ [⟨nx, b, sealB s, sealB s⟩], waits := (D.waits ++ [(⟨b, 0, sealB s⟩ : WaitS)]).filter (fun x => !decide (x.blk = b)) } nm with
  | none =>
    have hnn : ∀ f ∈ D.files, f.name ≠ nm := fun f hf => find_none hfm f (List.mem_append_left _ hf)
    have hfn : (D.files.filter fun x => !decide (x.name = nm)) = D.files := List.filter_eq_self.2 (fun f hf => by simpa using hnn f hf)
    refine ⟨_, by simp only; rw [hfl _ hno, hfn], fun x hx => ?_⟩
    rw [List.mem_filter] at hx
    have hxb : x.blk ≠ b := by simpa using hx.2
    rcases List.mem_append.1 hx.1 with h1 | h1
    · exact ⟨h1, hxb⟩
    · rw [List.mem_singleton] at h1; subst h1; exact absurd rfl hxb
  | some f =>
    refine ⟨_, by simp only [DiskS.without]; rw [hf1, hfl _ (fun f hf => hno f (List.mem_filter.1 hf).1)], fun x hx => ?_⟩
    simp only [DiskS.without, List.mem_filter] at hx
    have hxb : x.blk ≠ b := by simpa using hx.1.2
    rcases List.mem_append.1 hx.1.1 with h1 | h1
    · exact ⟨h1, hxb⟩
    · rw [List.mem_singleton] at h1; subst h1; exact absurd rfl hxb
end
end Go.Proofs.YtccbfekajbnehaaGreat.tp

/- The contracts of package name and of reveilleref03, continued: hashes, keys, tags, topics. -/
namespace Go.Proofs.YtccbfekajbnehaaGreat.nm
open Go.ChangeShapes Go.WideShapes Go.ChangeAt Go.RowKit

def hashFrom (h : Nat) (l : List UInt8) : Nat := l.foldl (fun h c => (31 * h + c.toNat) % 4294967296) h
def hashL (l : List UInt8) : Nat := hashFrom 0 l
def flatS (l : List ByteArray) : List UInt8 := (l.map (·.data.toList)).flatten
theorem hashFrom_lt (h : Nat) (hh : h < 4294967296) (l : List UInt8) : hashFrom h l < 4294967296 := by
  induction l generalizing h with
  | nil => exact hh
  | cons c l ih => exact ih _ (Nat.mod_lt _ (by omega))
theorem hashFrom_append (h : Nat) (a b : List UInt8) : hashFrom h (a ++ b) = hashFrom (hashFrom h a) b := by simp [hashFrom]
theorem hashFrom_snoc (h : Nat) (s : ByteArray) (k : Nat) (hk : k < s.size) : hashFrom h (s.data.toList.take (k + 1)) = (31 * hashFrom h (s.data.toList.take k) + (s[k]).toNat) % 4294967296 := by
  rw [List.take_succ_eq_append_getElem (by simpa using hk), hashFrom_append]; rfl
theorem flatS_snoc (l : List ByteArray) (k : Nat) (hk : k < l.length) : flatS (l.take (k + 1)) = flatS (l.take k) ++ (l.getD k ByteArray.empty).data.toList := by
  rw [List.take_succ_eq_append_getElem hk]; unfold flatS; rw [List.map_append, List.flatten_append]; simp [List.getD_eq_getElem?_getD, List.getElem?_eq_getElem hk]

end Go.Proofs.YtccbfekajbnehaaGreat.nm

/- The contracts of package name and of reveilleref03, continued. -/
namespace Go.Proofs.YtccbfekajbnehaaGreat.nm
open Go.ChangeShapes Go.WideShapes Go.ChangeAt Go.RowKit

def topicB (s : ByteArray) : Bool := ofOk s || plainB s
def tagB (s : ByteArray) : Bool := decide (s.size = 0) || plainB s
def keyN (c : Nat) : Bool := decide (33 ≤ c) && decide (c ≤ 126)
def keyL (l : List UInt8) : Bool := decide (1 ≤ l.length) && decide (l.length ≤ 16) && l.all (fun c => keyN c.toNat)
def keyB (s : ByteArray) : Bool := keyL s.data.toList

theorem isEmpty_iff (s : ByteArray) : s.toList.isEmpty = decide (s.size = 0) := by
  rw [Lib.toList_data, Bool.eq_iff_iff, List.isEmpty_iff, decide_eq_true_iff, ← size_toList, List.length_eq_zero_iff]

/-! ### package reveilleref03 -/
theorem rSign (c : UInt8) (h : (97 ≤ (c.toNat : Int) ∧ (c.toNat : Int) ≤ 122) ∨ (48 ≤ (c.toNat : Int) ∧ (c.toNat : Int) ≤ 57) ∨ (c.toNat : Int) = 45) : signB c = true := sign_true (by omega)
theorem rSign' (c : UInt8) (h : ¬ ((97 ≤ (c.toNat : Int) ∧ (c.toNat : Int) ≤ 122) ∨ (48 ≤ (c.toNat : Int) ∧ (c.toNat : Int) ≤ 57) ∨ (c.toNat : Int) = 45)) : signB c = false := sign_false (by omega)

set_option maxHeartbeats 1000000 in
theorem rPlain_any (s : ByteArray) (w : World) (hs : s.size ≤ maxLen) :
    Calls Tryz.prog 13 #[.string s] w fun e w' => e = .returned (.bool (plainB s)) ∧ w = w' := by
  unfold maxLen at hs
  go_enter Tryz.func13, Tryz.ntmps13
  go_wp2
  go_loop [3] (fun i => ∃ k : Nat, k ≤ s.size ∧ i = .int .i64 k ∧ (s.data.toList.take k).all signB = true) (fun i => s.size - (intOf i).toNat)
  case atStart => exact ⟨0, Nat.zero_le _, rfl, rfl⟩
  case round =>
    obtain ⟨k, hk, rfl, hall⟩ := hrel
    have Hall := box hall
    clear hall
    by_cases hlt : k < s.size
    · by_cases hc : (97 ≤ (s[k].toNat : Int) ∧ (s[k].toNat : Int) ≤ 122) ∨ (48 ≤ (s[k].toNat : Int) ∧ (s[k].toNat : Int) ≤ 57) ∨ (s[k].toNat : Int) = 45
      · have fin := box (show (s.data.toList.take (k + 1)).all signB = true by rw [all_snoc s k hlt signB, Hall.out, Bool.true_and]; exact rSign _ hc)
        rcases hc with ⟨c1, c2⟩ | ⟨c1, c2⟩ | c1
        · go_wp2
          go_round
          case rel => exact ⟨k + 1, by omega, by go_num, fin.out⟩
          case measure => simp [intOf]; omega
        · go_wp2
          go_round
          case rel => exact ⟨k + 1, by omega, by go_num, fin.out⟩
          case measure => simp [intOf]; omega
        · have c2 : ((s[k].toNat : Int) != 45) = false := by simp [c1]
          have C1 := box c1
          have c3 : (s[k].toNat : Int) ≤ 45 := by omega
          have c4 : 45 ≤ (s[k].toNat : Int) := by omega
          clear c1
          go_wp2
          go_round
          case rel => exact ⟨k + 1, by omega, by go_num, fin.out⟩
          case measure => simp [intOf]; omega
      · have fin := box (show plainB s = false by unfold plainB plainL; rw [all_no s k hlt signB (rSign' _ hc)]; simp)
        have c2 : ((s[k].toNat : Int) != 45) = true := by rw [bne_iff_ne]; omega
        go_wp2
        all_goals
          first
            | (go_ret; exact ⟨ret_bool (by rw [fin.out]), rfl⟩)
            | (exfalso; simp at *; omega)
    · have hn := box (all_take s k (by omega) signB)
      by_cases h1 : 1 ≤ (s.size : Int)
      · have hp := box (show plainB s = decide ((s.size : Int) ≤ 16) by unfold plainB plainL; rw [← hn.out, Hall.out, size_toList, Bool.and_true, decide_eq_true (by omega : 1 ≤ s.size), Bool.true_and]; exact decide_eq_decide.2 (by omega))
        go_wp2
        go_ret
        exact ⟨ret_bool (by rw [hp.out]), rfl⟩
      · have hp := box (plain_empty s (by omega))
        go_wp2
        go_ret
        exact ⟨ret_bool (by rw [hp.out]), rfl⟩

end Go.Proofs.YtccbfekajbnehaaGreat.nm

/- The contracts of package name and of reveilleref03, continued. -/
namespace Go.Proofs.YtccbfekajbnehaaGreat.nm
open Go.ChangeShapes Go.WideShapes Go.ChangeAt Go.RowKit

theorem rGroup_any (s : ByteArray) (w : World) (hs : s.size ≤ maxLen) :
    Calls Tryz.prog 42 #[.string s] w fun e w' => e = .returned (.bool (groupB s)) ∧ w = w' := by
  cases hp : plainB s
  · have hg : groupB s = false := by unfold groupB groupL; rw [show plainL s.data.toList = false from hp]; rfl
    rw [hg]
    clear hg
    go_enter Tryz.func42, Tryz.ntmps42
    go_wp2_with (go_at_call 13; refine (rPlain_any _ _ hs).mono ?_; rintro e w' ⟨rfl, rfl⟩)
    go_ret
    exact ⟨rfl, rfl⟩
  · have hg : groupB s = decide ((s.size : Int) ≤ 8) := by
      unfold groupB groupL; rw [show plainL s.data.toList = true from hp]; simp; omega
    rw [hg]
    clear hg
    go_enter Tryz.func42, Tryz.ntmps42
    go_wp2_with (go_at_call 13; refine (rPlain_any _ _ hs).mono ?_; rintro e w' ⟨rfl, rfl⟩)
    go_ret
    exact ⟨rfl, rfl⟩

theorem rHas_any (s h : ByteArray) (w : World) (hs : s.size ≤ maxLen) (hh : h.size ≤ 100) :
    Calls Tryz.prog 41 #[.string s, .string h] w fun e w' => e = .returned (.bool (hasS s h)) ∧ w = w' := by
  unfold maxLen at hs
  have hr := Lib.hasPrefix_raw s h
  by_cases h1 : h.size ≤ s.size
  · have hp := box (show hasS s h = ((s.extract 0 h.size).toList == h.toList) by unfold hasS; rw [← hr]; simp [h1])
    clear hr
    go_enter Tryz.func41, Tryz.ntmps41
    go_wp2
    go_ret
    exact ⟨ret_bool (by rw [hp.out]), rfl⟩
  · have hp := box (show hasS s h = false by unfold hasS; rw [← hr]; simp [h1])
    clear hr
    go_enter Tryz.func41, Tryz.ntmps41
    go_wp2
    go_ret
    exact ⟨ret_bool (by rw [hp.out]), rfl⟩

end Go.Proofs.YtccbfekajbnehaaGreat.nm

/- The contracts of package name and of reveilleref03, continued. -/
namespace Go.Proofs.YtccbfekajbnehaaGreat.nm
open Go.ChangeShapes Go.WideShapes Go.ChangeAt Go.RowKit

theorem hasS_raw (s h : ByteArray) : hasS s h = (decide (h.size ≤ s.size) && ((s.extract 0 h.size).toList == h.toList)) := by
  unfold hasS; rw [Lib.hasPrefix_raw]
theorem hasS_size {s h : ByteArray} (g : hasS s h = true) : h.size ≤ s.size := by
  rw [hasS_raw] at g; simp at g; exact g.1
theorem cutS_hit {s h : ByteArray} (g : hasS s h = true) : cutS s h = s.extract h.size s.size := by
  rw [hasS_raw, Bool.and_eq_true] at g
  exact Lib.trimPrefix_hit s h (by simpa using g.1) g.2

set_option maxHeartbeats 1000000 in
theorem rOf_any (s : ByteArray) (w : World) (hs : s.size ≤ maxLen) :
    Calls Tryz.prog 15 #[.string s] w fun e w' => e = .returned (.string (ofG s)) ∧ w = w' := by
  have h7 : (s.extract 7 s.size).size ≤ maxLen := by simp; omega
  have h6 : (s.extract 6 s.size).size ≤ maxLen := by simp; omega
  have s7 : hasS s retryC = true → 7 ≤ (s.size : Int) := fun h => by have := hasS_size h; simp [retryC] at this; have e : (ByteArray.mk #[37, 114, 101, 116, 114, 121, 37]).size = 7 := rfl; omega
  have s6 : hasS s deadC = true → 6 ≤ (s.size : Int) := fun h => by have := hasS_size h; simp [deadC] at this; have e : (ByteArray.mk #[37, 100, 101, 97, 100, 37]).size = 6 := rfl; omega
  have c7 : hasS s retryC = true → cutS s retryC = s.extract 7 s.size := fun h => cutS_hit h
  have c6 : hasS s deadC = true → cutS s deadC = s.extract 6 s.size := fun h => cutS_hit h
  rcases three s retryC with ⟨h0, h1⟩ | ⟨h0, h1, h2⟩ | ⟨h0, h1, h2⟩
  · rcases three s deadC with ⟨g0, g1⟩ | ⟨g0, g1, g2⟩ | ⟨g0, g1, g2⟩
    · have e1 := box (show ofG s = ⟨#[]⟩ by unfold ofG; rw [h0, g0]; rfl)
      clear h7 h6 s7 s6 c7 c6 h0 g0
      go_enter Tryz.func15, Tryz.ntmps15
      go_wp2_with (first | (go_at_call 41; refine (rHas_any _ _ _ hs (by decide)).mono ?_; rintro e w' ⟨rfl, rfl⟩) | (go_at_call 42; refine (rGroup_any _ _ (by assumption)).mono ?_; rintro e w' ⟨rfl, rfl⟩))
      go_ret
      exact ⟨ret_str (by rw [e1.out]), rfl⟩
    · have e1 := box (show ofG s = ⟨#[]⟩ by unfold ofG; rw [h0, g0]; rfl)
      have z6 := s6 g1
      rw [c6 g1] at g2
      clear s7 s6 c7 c6 h0 g0
      go_enter Tryz.func15, Tryz.ntmps15
      go_wp2_with (first | (go_at_call 41; refine (rHas_any _ _ _ hs (by decide)).mono ?_; rintro e w' ⟨rfl, rfl⟩) | (go_at_call 42; refine (rGroup_any _ _ (by assumption)).mono ?_; rintro e w' ⟨rfl, rfl⟩))
      go_ret
      exact ⟨ret_str (by rw [e1.out]), rfl⟩
    · have e1 := box (show ofG s = s.extract 6 s.size by unfold ofG; rw [h0, g0, c6 g1]; rfl)
      have z6 := s6 g1
      rw [c6 g1] at g2
      clear s7 s6 c7 c6 h0 g0
      go_enter Tryz.func15, Tryz.ntmps15
      go_wp2_with (first | (go_at_call 41; refine (rHas_any _ _ _ hs (by decide)).mono ?_; rintro e w' ⟨rfl, rfl⟩) | (go_at_call 42; refine (rGroup_any _ _ (by assumption)).mono ?_; rintro e w' ⟨rfl, rfl⟩))
      go_ret
      exact ⟨ret_str (by rw [e1.out]), rfl⟩
  · have z7 := s7 h1
    rw [c7 h1] at h2
    rcases three s deadC with ⟨g0, g1⟩ | ⟨g0, g1, g2⟩ | ⟨g0, g1, g2⟩
    · have e1 := box (show ofG s = ⟨#[]⟩ by unfold ofG; rw [h0, g0]; rfl)
      clear s7 s6 c7 c6 h0 g0
      go_enter Tryz.func15, Tryz.ntmps15
      go_wp2_with (first | (go_at_call 41; refine (rHas_any _ _ _ hs (by decide)).mono ?_; rintro e w' ⟨rfl, rfl⟩) | (go_at_call 42; refine (rGroup_any _ _ (by assumption)).mono ?_; rintro e w' ⟨rfl, rfl⟩))
      go_ret
      exact ⟨ret_str (by rw [e1.out]), rfl⟩
    · have e1 := box (show ofG s = ⟨#[]⟩ by unfold ofG; rw [h0, g0]; rfl)
      have z6 := s6 g1
      rw [c6 g1] at g2
      clear s7 s6 c7 c6 h0 g0
      go_enter Tryz.func15, Tryz.ntmps15
      go_wp2_with (first | (go_at_call 41; refine (rHas_any _ _ _ hs (by decide)).mono ?_; rintro e w' ⟨rfl, rfl⟩) | (go_at_call 42; refine (rGroup_any _ _ (by assumption)).mono ?_; rintro e w' ⟨rfl, rfl⟩))
      go_ret
      exact ⟨ret_str (by rw [e1.out]), rfl⟩
    · have e1 := box (show ofG s = s.extract 6 s.size by unfold ofG; rw [h0, g0, c6 g1]; rfl)
      have z6 := s6 g1
      rw [c6 g1] at g2
      clear s7 s6 c7 c6 h0 g0
      go_enter Tryz.func15, Tryz.ntmps15
      go_wp2_with (first | (go_at_call 41; refine (rHas_any _ _ _ hs (by decide)).mono ?_; rintro e w' ⟨rfl, rfl⟩) | (go_at_call 42; refine (rGroup_any _ _ (by assumption)).mono ?_; rintro e w' ⟨rfl, rfl⟩))
      go_ret
      exact ⟨ret_str (by rw [e1.out]), rfl⟩
  · have z7 := s7 h1
    have e1 := box (show ofG s = s.extract 7 s.size by unfold ofG; rw [h0, c7 h1]; rfl)
    rw [c7 h1] at h2
    clear s7 s6 c7 c6 h0
    go_enter Tryz.func15, Tryz.ntmps15
    go_wp2_with (first | (go_at_call 41; refine (rHas_any _ _ _ hs (by decide)).mono ?_; rintro e w' ⟨rfl, rfl⟩) | (go_at_call 42; refine (rGroup_any _ _ (by assumption)).mono ?_; rintro e w' ⟨rfl, rfl⟩))
    go_ret
    exact ⟨ret_str (by rw [e1.out]), rfl⟩

theorem ofOk_iff (s : ByteArray) : ofOk s = !decide ((ofG s).size = 0) := by
  have hg : ∀ x : ByteArray, groupB x = true → x.size ≠ 0 := by
    intro x h hz
    unfold groupB groupL plainL at h
    simp [hz] at h
  unfold ofOk ofG
  cases h1 : hitS s retryC
  · cases h2 : hitS s deadC
    · rfl
    · have : groupB (cutS s deadC) = true := by unfold hitS at h2; simp at h2; exact h2.2
      simp [hg _ this]
  · have : groupB (cutS s retryC) = true := by unfold hitS at h1; simp at h1; exact h1.2
    simp [hg _ this]

/-! ### All -/
theorem allP_snoc (l : List ByteArray) (k : Nat) (hk : k < l.length) (p : ByteArray → Bool) : (l.take (k + 1)).all p = ((l.take k).all p && p (l.getD k ByteArray.empty)) := by
  rw [List.take_succ_eq_append_getElem hk, List.all_append]; simp [List.getD_eq_getElem?_getD, List.getElem?_eq_getElem hk]
theorem allP_no (l : List ByteArray) (k : Nat) (hk : k < l.length) (p : ByteArray → Bool) (h : p (l.getD k ByteArray.empty) = false) : l.all p = false := by
  rw [List.all_eq_false]
  exact ⟨l[k], List.getElem_mem _, by simpa [List.getD_eq_getElem?_getD, List.getElem?_eq_getElem hk] using h⟩

end Go.Proofs.YtccbfekajbnehaaGreat.nm

/- Layer 13: a table: Open, Queues, Check, All. -/
namespace Go.Proofs.YtccbfekajbnehaaGreat.tp
open Go.ChangeShapes Go.WideShapes Go.ChangeAt Go.RowKit
open Go.Proofs.YtccbfekajbnehaaGreat.dk Go.Proofs.YtccbfekajbnehaaGreat.nm Go.Proofs.YtccbfekajbnehaaGreat.oc Go.Proofs.YtccbfekajbnehaaGreat.rc

abbrev topicsN : ByteArray := ⟨#[116, 111, 112, 105, 99, 115]⟩
/-- A table lies at t, over the disk at p; its topics. -/
def TblAt (w : World) (t p : Nat) (v : Value) : Prop := w.heap[t]? = some (.cells #[ptrTo p, v] 78 (0, 0))
structure Tbl (w : World) (t p : Nat) (l : List TopS) : Prop where
  at_ : ∃ v, TblAt w t p v ∧ topRow 0 w v l
  few : l.length ≤ 6
  ok : ∀ x ∈ l, TopOk x
theorem Tbl.calm {w w' : World} {t p : Nat} {l : List TopS} (h : Tbl w t p l) (hc : Calm w w') : Tbl w' t p l := by
  obtain ⟨v, h1, h2⟩ := h.at_
  exact ⟨⟨v, heap_calm hc h1, own_calm h2 hc⟩, h.few, h.ok⟩
/-- How many queues a topic has. -/
def queuesT (l : List TopS) (n : ByteArray) : Int := if ofOk n = true then 1 else match l.find? (fun x => decide (x.name = n)) with | some x => x.queues | none => 0
def checkT (l : List TopS) (n : ByteArray) (q : Int) : Int := if queuesT l n = 0 then 12 else if q < 0 ∨ queuesT l n ≤ q then 13 else 0
section
variable {p t n : Nat} {D : DiskS} {F : Nat → Prop} {l : List TopS}
theorem find_snoc (l : List TopS) (s : ByteArray) (k : Nat) (hk : k < l.length) (h : (l.take k).find? (fun x => decide (x.name = s)) = none) :
    (l[k].name = s → l.find? (fun x => decide (x.name = s)) = some l[k]) ∧ (l[k].name ≠ s → (l.take (k + 1)).find? (fun x => decide (x.name = s)) = none) := by
  constructor
  · intro he
    have : l = l.take k ++ l[k] :: l.drop (k + 1) := by rw [← List.drop_eq_getElem_cons hk, List.take_append_drop]
    refine (congrArg (List.find? (fun x => decide (x.name = s))) this).trans ?_
    rw [List.find?_append, h, List.find?_cons_of_pos (p := fun x : TopS => decide (x.name = s)) (decide_eq_true he)]
    rfl
  · intro he
    rw [List.take_succ_eq_append_getElem hk, List.find?_append, h]
    simp [he]
set_option maxRecDepth 100000 in
set_option maxHeartbeats 4000000 in
theorem Queues_any (s : ByteArray) (w : World) (h : Tbl w t p l) :
    Calls Tryz.prog 17 #[ptrTo t, .string s] w fun e w' => e = .returned (.int .i64 (queuesT l s)) ∧ Calm w w' := by
  obtain ⟨v, hT, hrow⟩ := h.at_
  have hof := box (Of_any s w)
  have Hfew := box h.few
  have HT := box hT
  have Hrow := box hrow
  have hl := h.few
  obtain ⟨a, cap, rfl, _, hc⟩ := hrow.tops
  have Hc := box hc
  have Hq := box (show queuesT l s = if ofOk s = true then 1 else match l.find? (fun x => decide (x.name = s)) with | some x => x.queues | none => 0 from rfl)
  obtain ⟨q, hq⟩ : ∃ q, queuesT l s = q := ⟨_, rfl⟩
  rw [hq] at Hq ⊢
  obtain ⟨o, ho⟩ : ∃ o, ofOk s = o := ⟨_, rfl⟩
  rw [ho] at hof Hq
  clear hq ho h hc hrow hT
  cases o
  · go_enter Tryz.func17, Tryz.ntmps17
    go_wp2_with fail
    refine hof.out.mono ?_
    rintro e w1 ⟨rfl, hc1⟩
    have HC1 := box hc1
    have hT1 := heap_calm hc1 HT.out
    have c1 := cell_of hT1 1
    have tlt := heap_lt hT1
    clear hc1 hT1 hof
    go_wp2_with fail
    go_loopw [22] (fun iv wr => ∃ k : Nat, k ≤ l.length ∧ iv = .int .i64 k ∧ Box ((l.take k).find? (fun x => decide (x.name = s)) = none) ∧ Calm w wr) (fun iv _ => l.length - (intOf iv).toNat)
    case atStart => exact ⟨0, Nat.zero_le _, rfl, box rfl, HC1.out⟩
    case round =>
      clear HC1
      obtain ⟨k, hk, rfl, HB, hcw⟩ := hrel
      have HC := box hcw
      clear hcw
      obtain ⟨wi, hwi⟩ : ∃ wi : World, wi = wr := ⟨_, rfl⟩
      subst hwi
      by_cases hlt : k < l.length
      · obtain ⟨b, off, rfl, hb, d0, d1⟩ := Hc.out k hlt
        have hsn := box (find_snoc l s k hlt HB.out)
        obtain ⟨⟨xn, xq⟩, hx⟩ : ∃ z, l[k] = z := ⟨_, rfl⟩
        simp only [hx] at d0 d1 hsn
        have d0' := (HC.out.cell (p := ⟨b, off + k * 2, none⟩) hb).trans d0
        have d1' := (HC.out.cell (p := ⟨b, off + k * 2 + 1, none⟩) hb).trans d1
        have hb' := Nat.lt_of_lt_of_le hb HC.out.size
        have HCa := box (HC.out.alloc (.cells #[.string xn, .int .i64 xq] 40))
        clear d0 d1 hx HB
        by_cases he : xn = s
        · subst he
          have Hf := box (hsn.out.1 rfl)
          clear hsn
          go_wp2_with (first | go_quiet (fail) | fail)
          go_ret
          exact ⟨ret_int (by rw [Hq.out, if_neg Bool.false_ne_true, Hf.out]), HCa.out⟩
        · have hb1 : (xn.toList == s.toList) = false := beq_eq_false_iff_ne.2 (fun e => he (ba_ext (by rw [← Lib.toList_data, ← Lib.toList_data]; exact e)))
          have Hf := box (hsn.out.2 he)
          clear hsn
          go_wp2_with (first | go_quiet (fail) | fail)
          go_roundw
          case rel => exact ⟨k + 1, by omega, by go_num, Hf, HCa.out⟩
          case measure => simp [intOf]; omega
      · obtain rfl : k = l.length := by omega
        have hf := HB.out
        rw [List.take_length] at hf
        have Hf := box hf
        clear hf
        go_wp2_with fail
        go_ret
        exact ⟨ret_int (by rw [Hq.out, if_neg Bool.false_ne_true, Hf.out]), HC.out⟩
  · go_enter Tryz.func17, Tryz.ntmps17
    go_wp2_with fail
    refine hof.out.mono ?_
    rintro e w1 ⟨rfl, hc1⟩
    have HC1 := box hc1
    clear hc1 hof
    go_wp2_with fail
    go_ret
    exact ⟨ret_int (by rw [Hq.out]; rfl), HC1.out⟩
theorem Check_any (s : ByteArray) (q : Int) (w : World) (h : Tbl w t p l) :
    Calls Tryz.prog 18 #[ptrTo t, .string s, .int .i64 q] w fun e w' => e = .returned (.int .i64 (checkT l s q)) ∧ Calm w w' := by
  have hq := box (Queues_any s w h)
  have Hc := box (show checkT l s q = if queuesT l s = 0 then 12 else if q < 0 ∨ queuesT l s ≤ q then 13 else 0 from rfl)
  obtain ⟨c, hc⟩ : ∃ c, checkT l s q = c := ⟨_, rfl⟩
  obtain ⟨z, hz⟩ : ∃ z, queuesT l s = z := ⟨_, rfl⟩
  rw [hz] at hq Hc
  rw [hc] at Hc ⊢
  clear hz hc h
  by_cases h0 : z = 0
  · subst h0
    go_enter Tryz.func18, Tryz.ntmps18
    go_wp2_with fail
    refine hq.out.mono ?_
    rintro e w1 ⟨rfl, hc1⟩
    have HC1 := box hc1
    clear hc1 hq
    go_wp2_with fail
    go_ret
    exact ⟨ret_int (by rw [Hc.out]; rfl), HC1.out⟩
  · have hne : (z == 0) = false := beq_eq_false_iff_ne.2 h0
    by_cases hq0 : q < 0
    · go_enter Tryz.func18, Tryz.ntmps18
      go_wp2_with fail
      refine hq.out.mono ?_
      rintro e w1 ⟨rfl, hc1⟩
      have HC1 := box hc1
      clear hc1 hq
      go_wp2_with fail
      go_ret
      exact ⟨ret_int (by rw [Hc.out]; simp [h0, hq0]), HC1.out⟩
    by_cases hqz : z ≤ q
    · go_enter Tryz.func18, Tryz.ntmps18
      go_wp2_with fail
      refine hq.out.mono ?_
      rintro e w1 ⟨rfl, hc1⟩
      have HC1 := box hc1
      clear hc1 hq
      go_wp2_with fail
      go_ret
      exact ⟨ret_int (by rw [Hc.out]; simp [h0, hqz]), HC1.out⟩
    · go_enter Tryz.func18, Tryz.ntmps18
      go_wp2_with fail
      refine hq.out.mono ?_
      rintro e w1 ⟨rfl, hc1⟩
      have HC1 := box hc1
      clear hc1 hq
      go_wp2_with fail
      go_ret
      exact ⟨ret_int (by rw [Hc.out]; simp [h0, hqz, hq0]), HC1.out⟩
theorem tAll_any (w : World) (h : Tbl w t p l) :
    Calls Tryz.prog 16 #[ptrTo t] w fun e w' => ∃ v', e = .returned v' ∧ topRow w.heap.size w' v' l ∧ Calm w w' := by
  obtain ⟨v, hT, hrow⟩ := h.at_
  have hcl := box (Clone_any v l w hrow.tops (by have := h.few; omega))
  have c1 := cell_of hT 1
  have tlt := heap_lt hT
  clear hT hrow h
  go_enter Tryz.func16, Tryz.ntmps16
  go_wp2_with fail
  refine hcl.out.mono ?_
  rintro e w1 ⟨v', rfl, hr, hc⟩
  have Hr := box hr
  have Hc := box hc
  clear hr hc hcl
  go_wp2_with fail
  go_ret
  exact ⟨_, rfl, Hr.out, Hc.out⟩
end
end Go.Proofs.YtccbfekajbnehaaGreat.tp
