/- Layer 13: Contains over names; a text is laid, saved, loaded: as what the disk does. -/
import Derived.Test.YtafdfmdcnniccaaGreatRows
import Derived.WalkKit
import Derived.ProofKit
import Derived.OpenShut
import Derived.Handy
import Derived.Deep.LoopGhost
import Derived.Lib.Hide
import Derived.Lib.Strings
import Derived.SizedLaws
import Derived.Maps.Own
import Derived.Maps.OwnOps
import Derived.Maps.OwnSet
import Derived.Maps.RangeWalk
import Derived.Deep.QuietTactic
import Derived.BigQuiet
import Derived.Deep.RegionHeld3
import Derived.Lib.ConvBytes
import Derived.Lib.AppendZeros
import Derived.Lib.AppendZerosOnto
import Derived.Lib.LazyBuf
import Derived.Shelf.Abstract
import Derived.LaidEql
import Derived.Lib.SliceRun
import Derived.StillTailTactics
import Derived.Deep.Slices
import Derived.Outline
import Derived.Laws.Cover1
import Derived.Deep.RegionLaw
import Derived.Deep.DeepCutAuto
import Derived.Deep.CutBlock
import Derived.Shelf.SlicesE.Clone
import Derived.Ground.SlgnProg
import Derived.Test.YtafdfmdcnniccaaGreatProg
import Derived.Shelf.Strings.Builder1
import Derived.Shelf.Small.Bits
import Derived.Shelf.Small.Wraps
import Derived.Shelf.Strings.BuilderF
import Derived.Shelf.Strings.BuilderK
import Derived.Shelf.Strconv.Itoa0
import Derived.Shelf.Sort.Plain
import Derived.Shelf.GgClosure.StringsIndexFunc
import Derived.Ground.GgwProg
import Derived.Shelf.GgClosure.StringsIndexFuncTop
import Derived.Shelf.GgClosure.StringsRunes
import Derived.Shelf.Strings.Prefix
import Derived.Shelf.Strings.BuilderCap
import Derived.Ground.Names2Prog
import Derived.Shelf.Slices.SearchI
import Derived.Shelf.Slices.In.SortNone
import Derived.Ground.SlgfProg
import Derived.Shelf.SlicesE.IndexFunc
import Derived.Shelf.SlicesE.DeleteFunc
import Derived.Lib.DecodeN
import Derived.Lib.Overlaps
import Derived.Laws.CopyOwn
import Derived.Laws.MakeOwn
import Derived.Lib.Builder
import Derived.Lib.AppendStr
import Derived.Laws.Rows
import Derived.Shelf.SlIter.Nil
import Derived.Ground.GgzProg
import Derived.Shelf.SortM.Plain
import Derived.Shelf.SortM.SortNone
import Derived.Ground.SlgmProg
import Derived.Laws.BitsLemmas
import Derived.Laws.ResultCell
import Derived.Laws.StructEq
import Derived.Laws.Cover3
import Derived.OwnWalk
import Derived.Test.YtafdfmdcnniccaaGreatPk28
namespace Go.Proofs.YtafdfmdcnniccaaGreat.tp
open Go.ChangeShapes Go.WideShapes Go.ChangeAt Go.RowKit
open Go.Proofs.YtafdfmdcnniccaaGreat.oc Go.Proofs.YtafdfmdcnniccaaGreat.dk Go.Proofs.YtafdfmdcnniccaaGreat.cr Go.Proofs.YtafdfmdcnniccaaGreat.rc

def idxS (l : List ByteArray) (s : ByteArray) : Int := match l.findIdx? (fun x => decide (x = s)) with | some k => k | none => -1
theorem idxS_mem (l : List ByteArray) (s : ByteArray) : decide (0 ≤ idxS l s) = l.any fun x => decide (x = s) := by
  unfold idxS
  cases h : l.findIdx? (fun x => decide (x = s)) with
  | none =>
    rw [List.findIdx?_eq_none_iff] at h
    have : (l.any fun x => decide (x = s)) = false := List.any_eq_false.2 (fun x hx => by rw [h x hx]; exact Bool.false_ne_true)
    rw [this]; rfl
  | some k =>
    rw [List.findIdx?_eq_some_iff_getElem] at h
    obtain ⟨hk, h1, _⟩ := h
    have : (l.any fun x => decide (x = s)) = true := List.any_eq_true.2 ⟨l[k], List.getElem_mem _, h1⟩
    rw [this]; exact decide_eq_true (Int.natCast_nonneg k)
theorem idxS_snoc (l : List ByteArray) (s : ByteArray) (k : Nat) (hk : k < l.length) (h : (l.take k).findIdx? (fun x => decide (x = s)) = none) :
    (l[k] = s → idxS l s = k) ∧ (l[k] ≠ s → (l.take (k + 1)).findIdx? (fun x => decide (x = s)) = none) := by
  rw [List.findIdx?_eq_none_iff] at h
  constructor
  · intro he
    have : l.findIdx? (fun x => decide (x = s)) = some k := by
      rw [List.findIdx?_eq_some_iff_getElem]
      refine ⟨hk, decide_eq_true he, fun j hj => ?_⟩
      have := h l[j] (by rw [List.mem_take_iff_getElem]; exact ⟨j, by omega, rfl⟩)
      rw [this]; exact Bool.false_ne_true
    unfold idxS; rw [this]
  · intro he
    rw [List.findIdx?_eq_none_iff, List.take_succ_eq_append_getElem hk]
    intro x hx
    rcases List.mem_append.1 hx with hx | hx
    · exact h x hx
    · rw [List.mem_singleton] at hx; subst hx; exact decide_eq_false he
set_option maxRecDepth 100000 in
set_option maxHeartbeats 2000000 in
theorem IndexS_any (v : Value) (l : List ByteArray) (s : ByteArray) (w : World) (h : StrsAt w v l) (hl : l.length ≤ 4294967296) :
    Calls Tryz.prog 75 #[v, .string s] w fun e w' => e = .returned (.int .i64 (idxS l s)) ∧ Calm w w' := by
  obtain ⟨a, cap, rfl, hc⟩ := h.uni
  have H := box hc
  clear h hc
  go_enter Tryz.func75, Tryz.ntmps75
  go_wp2_with fail
  go_loopw [8] (fun i wr => ∃ k : Nat, k ≤ l.length ∧ i = .int .i64 k ∧ Box ((l.take k).findIdx? (fun x => decide (x = s)) = none) ∧ Calm w wr) (fun i _ => l.length - (intOf i).toNat)
  case atStart => exact ⟨0, Nat.zero_le _, rfl, box rfl, .refl _⟩
  case round =>
    obtain ⟨k, hk, rfl, Hno, hcw⟩ := hrel
    have HC := box hcw
    clear hcw
    by_cases hlt : k < l.length
    · obtain ⟨b, off, rfl, hb, hcell⟩ := H.out k hlt
      rw [show l.getD k ByteArray.empty = l[k] by rw [List.getD_eq_getElem?_getD, List.getElem?_eq_getElem hlt]; rfl] at hcell
      have hcell' := (HC.out.cell (p := ⟨b, off + k, none⟩) hb).trans hcell
      have hb' := Nat.lt_of_lt_of_le hb HC.out.size
      have hsn := box (idxS_snoc l s k hlt)
      obtain ⟨x, hx⟩ : ∃ x, l[k] = x := ⟨_, rfl⟩
      rw [hx] at hcell' hsn
      clear hx hcell
      by_cases he : x = s
      · subst he
        have hn := box ((hsn.out Hno.out).1 rfl)
        go_wp2_with (first | go_quiet (fail) | fail)
        go_ret
        exact ⟨ret_int (by rw [hn.out]), HC.out⟩
      · have hb1 : (s.toList == x.toList) = false := beq_eq_false_iff_ne.2 (fun e => he (ba_ext (by rw [← Lib.toList_data, ← Lib.toList_data]; exact e.symm)))
        have hn := box ((hsn.out Hno.out).2 he)
        go_wp2_with (first | go_quiet (fail) | fail)
        go_roundw
        case rel => exact ⟨k + 1, by omega, by go_num, hn, HC.out⟩
        case measure => simp [intOf]; omega
    · obtain rfl : k = l.length := by omega
      have hn := box (show idxS l s = -1 by have := Hno.out; rw [List.take_length] at this; unfold idxS; rw [this])
      go_wp2_with fail
      go_ret
      exact ⟨ret_int (by rw [hn.out]), HC.out⟩
theorem ContainsS_any (v : Value) (l : List ByteArray) (s : ByteArray) (w : World) (h : StrsAt w v l) (hl : l.length ≤ 4294967296) :
    Calls Tryz.prog 51 #[v, .string s] w fun e w' => e = .returned (.bool (l.any fun x => decide (x = s))) ∧ Calm w w' := by
  have hi := box (IndexS_any v l s w h hl)
  have hb := box (idxS_mem l s)
  obtain ⟨a, cap, rfl, _⟩ := h.uni
  clear h
  go_enter Tryz.func51, Tryz.ntmps51
  go_wp2_with fail
  refine hi.out.mono ?_
  rintro e w' ⟨rfl, hc⟩
  have HC := box hc
  clear hc
  go_wp2_with fail
  go_ret
  exact ⟨ret_bool hb.out, HC.out⟩

/-- A text is laid into a new file. -/
def laidD (D : DiskS) (n s : ByteArray) (b : Nat) : Int × DiskS :=
  if (D.create n b).1 ≠ 0 then D.create n b else
  if ((D.create n b).2.write n 0 s).1 ≠ 0 then (D.create n b).2.write n 0 s else
  ((D.create n b).2.write n 0 s).2.sync [n]
section
variable {p n : Nat} {D : DiskS} {F : Nat → Prop}
theorem one_strs (w : World) (s : ByteArray) : StrsAt (w.alloc (.cells #[.string s] 9)) (.slice (some ⟨w.heap.size, 0, none⟩) 1 1) [s] := StrsAt.one (by rw [cell_of (heap_new w _)]; rfl)
theorem one_apart {w : World} (h : DiskOk w p D F n) : Apart (.slice (some ⟨w.heap.size, 0, none⟩) 1 1) F := fun a m c e hm hf => by
  cases e
  exact absurd (h.foot_lt _ hf) (Nat.lt_irrefl _)
/-- Sync, and Delete, of one file, its name in a list of its own. -/
theorem Sync_one (s : ByteArray) (w : World) (h : DiskOk w p D F n) (hn : n ≤ 1000000) :
    Calls Tryz.prog 85 #[ptrTo p, .slice (some ⟨w.heap.size, 0, none⟩) 1 1] (w.alloc (.cells #[.string s] 9)) (OkDone (D.sync [s]) p F n w) :=
  (Sync_ok _ [s] _ (h.calm ((Calm.refl w).alloc _)) hn (one_strs w s) (one_apart h) (Nat.le_of_ble_eq_true rfl)).mono fun _ _ ⟨he, F', hd, hs⟩ => ⟨he, F', hd, Step.calm_left ((Calm.refl w).alloc _) hs⟩
theorem Delete_one (s : ByteArray) (w : World) (h : DiskOk w p D F n) (hn : n ≤ 1000000) :
    Calls Tryz.prog 53 #[ptrTo p, .slice (some ⟨w.heap.size, 0, none⟩) 1 1] (w.alloc (.cells #[.string s] 9)) (OkDone (D.delete [s]) p F n w) :=
  (Delete_ok _ [s] _ (h.calm ((Calm.refl w).alloc _)) hn (one_strs w s) (one_apart h) (Nat.le_of_ble_eq_true rfl)).mono fun _ _ ⟨he, F', hd, hs⟩ => ⟨he, F', hd, Step.calm_left ((Calm.refl w).alloc _) hs⟩
set_option maxRecDepth 100000 in
set_option maxHeartbeats 4000000 in
theorem laid_any (nm s : ByteArray) (w : World) (h : DiskOk w p D F n) (hn : n ≤ 999990) (hs : s.size ≤ 1000000000) :
    Calls Tryz.prog 54 #[ptrTo p, .string nm, .string s] w fun e w' => ∃ b, w.heap.size ≤ b ∧ OkDone (laidD D nm s b) p F (n + 1) w e w' := by
  have hcr := box (Create_ok nm w h)
  clear h
  go_enter Tryz.func54, Tryz.ntmps54
  go_wp2_with fail
  refine hcr.out.mono ?_
  rintro e w1 ⟨b, hb, rfl, F1, h1, hs1⟩
  have Hb := box hb
  have H1 := box h1
  have Hs1 := box hs1
  clear hb h1 hs1 hcr
  obtain ⟨r1, hr1⟩ : ∃ r, D.create nm b = r := ⟨_, rfl⟩
  rw [hr1] at H1 ⊢
  obtain ⟨c1, D1⟩ := r1
  by_cases hc1 : c1 = 0
  · subst hc1
    have hw := box (Write_ok nm s 0 w1 H1.out (by omega) hs)
    go_wp2_with fail
    refine hw.out.mono ?_
    rintro e w2 ⟨rfl, F2, h2, hs2⟩
    have H2 := box h2
    have Hs2 := box (Hs1.out.trans hs2)
    clear h2 hs2 hw
    obtain ⟨r2, hr2⟩ : ∃ r, D1.write nm 0 s = r := ⟨_, rfl⟩
    have Hr1 := box hr1
    have Hr2 := box hr2
    rw [hr2] at H2 ⊢
    clear hr1 hr2
    obtain ⟨c2, D2⟩ := r2
    by_cases hc2 : c2 = 0
    · subst hc2
      have hy := box (Sync_one nm w2 H2.out (by omega))
      go_wp2_with fail
      refine hy.out.mono ?_
      rintro e w3 ⟨rfl, F3, h3, hs3⟩
      have H3 := box h3
      have Hs3 := box (Hs2.out.trans hs3)
      clear h3 hs3 hy
      go_wp2_with fail
      go_ret
      have hr := show laidD D nm s b = D2.sync [nm] by unfold laidD; rw [Hr1.out]; simp only [ne_eq, not_true_eq_false, if_false]; rw [Hr2.out]; simp
      exact ⟨b, Hb.out, ret_int (by rw [hr]), F3, by rw [hr]; exact H3.out, Hs3.out⟩
    · have hne : (c2 == 0) = false := beq_eq_false_iff_ne.2 hc2
      have hne2 : (c2 != 0) = true := by simp [bne, hne]
      go_wp2_with fail
      go_ret
      have hr := show laidD D nm s b = (c2, D2) by unfold laidD; rw [Hr1.out]; simp only [ne_eq, not_true_eq_false, if_false]; rw [Hr2.out]; simp [hc2]
      exact ⟨b, Hb.out, ret_int (by rw [hr]), F2, by rw [hr]; exact H2.out, Hs2.out⟩
  · have hne : (c1 == 0) = false := beq_eq_false_iff_ne.2 hc1
    have hne2 : (c1 != 0) = true := by simp [bne, hne]
    have Hr1 := box hr1
    clear hr1
    go_wp2_with fail
    go_ret
    have hr := show laidD D nm s b = (c1, D1) by unfold laidD; rw [Hr1.out]; simp [hc1]
    exact ⟨b, Hb.out, ret_int (by rw [hr]), F1, by rw [hr]; exact H1.out.mono (by omega), Hs1.out⟩
end
end Go.Proofs.YtafdfmdcnniccaaGreat.tp

/- Layer 13: Save and Load, as what the disk does. -/
namespace Go.Proofs.YtafdfmdcnniccaaGreat.tp
open Go.ChangeShapes Go.WideShapes Go.ChangeAt Go.RowKit
open Go.Proofs.YtafdfmdcnniccaaGreat.oc Go.Proofs.YtafdfmdcnniccaaGreat.dk Go.Proofs.YtafdfmdcnniccaaGreat.cr Go.Proofs.YtafdfmdcnniccaaGreat.rc

abbrev freshN : ByteArray := ⟨#[46, 110, 101, 119]⟩
def sealB (s : ByteArray) : ByteArray := ⟨(sealL s.data.toList).toArray⟩
theorem sealB_size (s : ByteArray) : (sealB s).size = s.size + 4 := by
  unfold sealB sealL
  rw [show ∀ l : List UInt8, (⟨l.toArray⟩ : ByteArray).size = l.length from fun l => by simp [ByteArray.size], List.length_append, low_length, size_toList]
  omega
theorem names_len (D : DiskS) (hd : ByteArray) (hl : D.files.length ≤ 1000000) : (D.names hd).length ≤ 1000000 := by
  unfold DiskS.names DiskS.namesL
  rw [List.length_map]
  refine Nat.le_trans (List.length_filter_le _ _) ?_
  simpa using hl
theorem has_iff (D : DiskS) (nx : ByteArray) : D.has nx = true ↔ ∃ f ∈ D.files, f.name = nx := by
  unfold DiskS.has DiskS.find
  rw [List.find?_isSome]
  simp
theorem names_self (D : DiskS) (nx : ByteArray) : ((D.names nx).any fun x => decide (x = nx)) = D.has nx := by
  rw [Bool.eq_iff_iff, List.any_eq_true, has_iff]
  unfold DiskS.names DiskS.namesL
  constructor
  · rintro ⟨x, hx, he⟩
    obtain ⟨l, hl, hlx⟩ := List.mem_map.1 hx
    have h1 := (List.mem_filter.1 hl).1
    rw [List.mem_mergeSort] at h1
    obtain ⟨f, hf, hfl⟩ := List.mem_map.1 h1
    exact ⟨f, hf, by rw [← of_decide_eq_true he, ← hlx, ← hfl]⟩
  · rintro ⟨f, hf, rfl⟩
    refine ⟨f.name, List.mem_map.2 ⟨f.name.data.toList, List.mem_filter.2 ⟨?_, ?_⟩, rfl⟩, decide_eq_true rfl⟩
    · rw [List.mem_mergeSort]
      exact List.mem_map.2 ⟨f, hf, rfl⟩
    · unfold Lib.hasPrefix
      exact List.isPrefixOf_iff_prefix.2 (List.prefix_refl _)
/-- What was there under the new name goes. -/
def clearD (D : DiskS) (nx : ByteArray) : Int × DiskS := if D.has nx = true then D.delete [nx] else (0, D)
/-- Behind the laying. -/
def endD (r : Int × DiskS) (nx nm : ByteArray) : Int × DiskS :=
  if r.1 ≠ 0 then (r.1, if r.1 ≠ 8 then (r.2.delete [nx]).2 else r.2) else r.2.rename nx nm
def saveD (D : DiskS) (nm s : ByteArray) (b : Nat) : Int × DiskS :=
  if (clearD D (nm ++ freshN)).1 ≠ 0 then clearD D (nm ++ freshN) else
  endD (laidD (clearD D (nm ++ freshN)).2 (nm ++ freshN) (sealB s) b) (nm ++ freshN) nm
section
variable {p n : Nat} {D : DiskS} {F : Nat → Prop}
def SaveDone (D : DiskS) (nm s : ByteArray) (p : Nat) (F : Nat → Prop) (n : Nat) (w : World) (e : Ending) (w' : World) : Prop := ∃ b, w.heap.size ≤ b ∧ OkDone (saveD D nm s b) p F (n + 1) w e w'
set_option maxRecDepth 100000 in
set_option maxHeartbeats 8000000 in
theorem Save_any (nm s : ByteArray) (w : World) (h : DiskOk w p D F n) (hn : n ≤ 999980) (hs : s.size ≤ 1000000) (hnm : nm.size ≤ 1000) (hf : ∀ f ∈ D.files, f.name.size ≤ maxLen) (hl : D.files.length ≤ 1000000) :
    Calls Tryz.prog 27 #[ptrTo p, .string nm, .string s] w (SaveDone D nm s p F n w) := by
  have hlist := box (List_any (nm ++ freshN) w h.lies hf hl)
  have hnl := names_len D (nm ++ freshN) hl
  have hself := box (names_self D (nm ++ freshN))
  have H := box h
  have hsz : (nm ++ freshN).size = nm.size + 4 := by rw [ByteArray.size_append]; rfl
  clear h hf hl
  have hsv := box (show ∀ b, saveD D nm s b = if (clearD D (nm ++ freshN)).1 ≠ 0 then clearD D (nm ++ freshN) else endD (laidD (clearD D (nm ++ freshN)).2 (nm ++ freshN) (sealB s) b) (nm ++ freshN) nm from fun b => rfl)
  obtain ⟨nx, hnx⟩ : ∃ nx, nm ++ freshN = nx := ⟨_, rfl⟩
  unfold ListDone at hlist
  rw [hnx] at hlist hnl hself hsz hsv
  obtain ⟨l, hl⟩ : ∃ l, D.names nx = l := ⟨_, rfl⟩
  rw [hl] at hlist hnl hself
  clear hl
  have hnx2 : nm ++ (⟨#[46, 110, 101, 119]⟩ : ByteArray) = nx := hnx
  clear hnx
  have hseal := box (sealB_size s)
  go_enter Tryz.func27, Tryz.ntmps27
  go_wp2_with fail
  refine hlist.out.mono ?_
  rintro e w1 ⟨v, rfl, hv, hc1, _⟩
  have hcon := box (ContainsS_any v l nx w1 hv (by omega))
  have HC1 := box hc1
  obtain ⟨va, vc, rfl, _⟩ := hv.uni
  clear hv hc1 hlist
  go_wp2_with fail
  refine hcon.out.mono ?_
  rw [hself.out]
  rintro e w2 ⟨rfl, hc2⟩
  have HC2 := box (HC1.out.trans hc2)
  clear hc2 hcon hself
  go_upto_if 18 with fail
  go_cut [8] (fun _ wx => (clearD D nx).1 = 0 ∧ ∃ F1, DiskOk wx p (clearD D nx).2 F1 n ∧ Step F w F1 wx)
  case first =>
    by_cases hh : D.has nx = true
    · have Hcd := box (show clearD D nx = D.delete [nx] by unfold clearD; rw [if_pos hh])
      have hdel := box (Delete_one nx w2 (H.out.calm HC2.out) (by omega))
      rw [hh]
      clear hh
      obtain ⟨r, hr⟩ : ∃ r, D.delete [nx] = r := ⟨_, rfl⟩
      rw [hr] at hdel Hcd
      clear hr
      obtain ⟨c, D1⟩ := r
      go_wp2_with fail
      refine hdel.out.mono ?_
      rintro e w3 ⟨rfl, F1, h1, hs1⟩
      have H1 := box h1
      have S1 := box (Step.calm_left HC2.out hs1)
      clear h1 hs1 hdel
      by_cases hc : c = 0
      · subst hc
        go_wp2_with fail
        go_meet
        rw [Hcd.out]
        exact ⟨rfl, F1, H1.out, S1.out⟩
      · have hne : (c == 0) = false := beq_eq_false_iff_ne.2 hc
        have hne2 : (c != 0) = true := by simp [bne, hne]
        go_wp2_with fail
        go_ret
        refine ⟨w.heap.size, Nat.le_refl _, ?_⟩
        rw [hsv.out, Hcd.out, if_pos hc]
        exact ⟨rfl, F1, H1.out.mono (by omega), S1.out⟩
    · have Hcd := box (show clearD D nx = (0, D) by unfold clearD; rw [if_neg hh])
      rw [Bool.eq_false_iff.2 hh]
      clear hh
      go_wp2_with fail
      go_meet
      rw [Hcd.out]
      exact ⟨rfl, F, H.out.calm HC2.out, Step.of_calm HC2.out⟩
  case rest =>
    obtain ⟨hc0, F1, h1, hs1⟩ := hcut
    have H1 := box h1
    have S1 := box hs1
    have Hc0 := box hc0
    clear h1 hs1 hc0 H HC1 HC2
    obtain ⟨⟨z, D1⟩, hr⟩ : ∃ r, clearD D nx = r := ⟨_, rfl⟩
    rw [hr] at H1 Hc0
    obtain rfl : z = 0 := Hc0.out
    have hsv2 := box (show ∀ b, saveD D nm s b = endD (laidD D1 nx (sealB s) b) nx nm from fun b => by rw [hsv.out, hr, if_neg (fun h => h rfl)])
    clear hr Hc0 hsv
    simp only at H1
    go_wp2_with fail
    refine (cr.New_any _).mono ?_
    rintro e w4 ⟨t, rfl, ht, _, hc4⟩
    have hse := box (Seal_any t s w4 ht hs)
    have HC4 := box hc4
    clear ht hc4
    go_wp2_with fail
    refine hse.out.mono ?_
    rintro e w5 ⟨rfl, hc5⟩
    have HC5 := box (HC4.out.trans hc5)
    clear hc5 hse
    have hlaid := box (laid_any nx (sealB s) w5 (H1.out.calm HC5.out) (by omega) (by rw [hseal.out]; omega))
    unfold sealB at hlaid
    go_wp2_with fail
    refine hlaid.out.mono ?_
    rintro e w6 ⟨b, hb, rfl, F2, h2, hs2⟩
    have Hb := box (Nat.le_trans (Nat.le_trans S1.out.keeps.size HC5.out.size) hb)
    have S2 := box (S1.out.trans (Step.calm_left HC5.out hs2))
    have H2 := box h2
    clear hb hs2 h2 hlaid
    obtain ⟨⟨c, D2⟩, hr⟩ : ∃ r, laidD D1 nx ⟨(sealL s.data.toList).toArray⟩ b = r := ⟨_, rfl⟩
    rw [hr] at H2
    have Hr := box (show saveD D nm s b = endD (c, D2) nx nm by rw [hsv2.out, show laidD D1 nx (sealB s) b = (c, D2) from hr])
    rw [hr]
    clear hr hsv2
    simp only at H2
    by_cases hc : c = 0
    · subst hc
      have hren := box (Rename_ok nx nm w6 H2.out (by omega))
      go_wp2_with fail
      refine hren.out.mono ?_
      rintro e w7 ⟨rfl, F3, h3, hs3⟩
      have H3 := box h3
      have S3 := box (S2.out.trans hs3)
      clear h3 hs3 hren
      go_wp2_with fail
      go_ret
      refine ⟨b, Hb.out, ?_⟩
      rw [Hr.out]
      unfold endD
      simp only [ne_eq, not_true_eq_false, if_false]
      exact ⟨rfl, F3, H3.out, S3.out⟩
    · have hne : (c == 0) = false := beq_eq_false_iff_ne.2 hc
      have hne2 : (c != 0) = true := by simp [bne, hne]
      by_cases h8 : c = 8
      · subst h8
        go_wp2_with fail
        go_ret
        refine ⟨b, Hb.out, ?_⟩
        rw [Hr.out]
        exact ⟨rfl, F2, H2.out, S2.out⟩
      · have hn8 : (c == 8) = false := beq_eq_false_iff_ne.2 h8
        have hn82 : (c != 8) = true := by simp [bne, hn8]
        have hdel := box (Delete_one nx w6 H2.out (by omega))
        go_wp2_with fail
        refine hdel.out.mono ?_
        rintro e w7 ⟨rfl, F3, h3, hs3⟩
        have H3 := box h3
        have S3 := box (S2.out.trans hs3)
        clear h3 hs3 hdel
        go_wp2_with fail
        go_ret
        refine ⟨b, Hb.out, ?_⟩
        rw [Hr.out]
        unfold endD
        simp only [ne_eq, hc, h8, not_false_eq_true, if_true]
        exact ⟨rfl, F3, H3.out, S3.out⟩
end
/-- What Load tells. -/
def loadD (D : DiskS) (nm : ByteArray) : ByteArray × Bool × Int :=
  if (D.all nm).2 = 9 then (⟨#[]⟩, false, 0) else if (D.all nm).2 ≠ 0 then (⟨#[]⟩, false, (D.all nm).2) else
  match openSeal (D.all nm).1 with
  | none => (⟨#[]⟩, false, 4)
  | some t => (t, true, 0)
section
variable {p n : Nat} {D : DiskS} {F : Nat → Prop}
set_option maxRecDepth 100000 in
set_option maxHeartbeats 8000000 in
theorem Load_any (nm : ByteArray) (w : World) (h : DiskOk w p D F n) (hs : (D.all nm).1.size ≤ 1000000) :
    Calls Tryz.prog 21 #[ptrTo p, .string nm] w fun e w' => e = .returned (.tuple #[.string (loadD D nm).1, .bool (loadD D nm).2.1, .int .i64 (loadD D nm).2.2]) ∧ Calm w w' := by
  have hall := box (All_any w nm h.lies)
  clear h
  unfold loadD
  obtain ⟨⟨u, c⟩, hr⟩ : ∃ r, D.all nm = r := ⟨_, rfl⟩
  rw [hr] at hall hs ⊢
  simp only at hall hs ⊢
  clear hr
  by_cases h9 : c = 9
  · subst h9
    simp only [if_true]
    go_enter Tryz.func21, Tryz.ntmps21
    go_wp2_with fail
    refine hall.out.mono ?_
    rintro e w1 ⟨rfl, hc⟩
    have HC := box hc
    clear hc hall
    go_wp2_with fail
    go_ret3
    exact ⟨rfl, HC.out⟩
  have n9 : (c == 9) = false := beq_eq_false_iff_ne.2 h9
  rw [if_neg h9]
  by_cases h0 : c = 0
  · subst h0
    simp only [ne_eq, not_true_eq_false, if_false]
    have hop := box (fun (t : Nat) (W : World) (ht : TabAt W t 1024) => Open_any t u W ht hs)
    obtain ⟨o, ho⟩ : ∃ o, openSeal u = o := ⟨_, rfl⟩
    rw [ho] at hop ⊢
    clear ho
    cases o
    all_goals
      unfold openV at hop
      simp only at hop ⊢
      go_enter Tryz.func21, Tryz.ntmps21
      go_wp2_with fail
      refine hall.out.mono ?_
      rintro e w1 ⟨rfl, hc⟩
      have HC := box hc
      clear hc hall
      go_wp2_with fail
      refine (cr.New_any _).mono ?_
      rintro e w2 ⟨t, rfl, ht, _, hc2⟩
      have hop2 := box (hop.out t w2 ht)
      have HC2 := box (HC.out.trans hc2)
      clear ht hc2 hop
      go_wp2_with fail
      refine hop2.out.mono ?_
      rintro e w3 ⟨rfl, hc3⟩
      have HC3 := box (HC2.out.trans hc3)
      clear hc3 hop2
      go_wp2_with fail
      go_ret3
      exact ⟨rfl, HC3.out⟩
  · have n0 : (c == 0) = false := beq_eq_false_iff_ne.2 h0
    have n1 : (c != 0) = true := by simp [bne, n0]
    rw [if_pos h0]
    go_enter Tryz.func21, Tryz.ntmps21
    go_wp2_with fail
    refine hall.out.mono ?_
    rintro e w1 ⟨rfl, hc⟩
    have HC := box hc
    clear hc hall
    go_wp2_with fail
    go_ret3
    exact ⟨rfl, HC.out⟩
end
end Go.Proofs.YtafdfmdcnniccaaGreat.tp

/- Layer 13, plain laws: what a save that has room leaves. -/
namespace Go.Proofs.YtafdfmdcnniccaaGreat.tp
open Go.ChangeShapes Go.WideShapes Go.ChangeAt Go.RowKit
open Go.Proofs.YtafdfmdcnniccaaGreat.oc Go.Proofs.YtafdfmdcnniccaaGreat.dk Go.Proofs.YtafdfmdcnniccaaGreat.rc
section
variable {D : DiskS}
theorem find_none_of {n : ByteArray} (h : D.has n = false) : ∀ f ∈ D.files, f.name ≠ n := fun f hf e => by
  have : D.has n = true := (has_iff D n).2 ⟨f, hf, e⟩
  rw [h] at this; cases this
theorem laid_empty (s : ByteArray) : laid ⟨#[]⟩ 0 s = s := ba_ext (bytes_end ⟨#[]⟩ s)
theorem find_last {L : List FileS} {n : ByteArray} (h : ∀ f ∈ L, f.name ≠ n) (x : FileS) (hx : x.name = n) : (L ++ [x]).find? (fun f => decide (f.name = n)) = some x := by
  rw [List.find?_append]
  have : L.find? (fun f => decide (f.name = n)) = none := List.find?_eq_none.2 (fun f hf => by simpa using h f hf)
  rw [this]
  simp [hx]
theorem turn_last {L : List FileS} {n : ByteArray} (h : ∀ f ∈ L, f.name ≠ n) (x : FileS) (hx : x.name = n) (g : FileS → FileS) : ((L ++ [x]).map fun y => if y.name = n then g y else y) = L ++ [g x] := by
  rw [List.map_append]
  congr 1
  · conv => rhs; rw [← List.map_id L]
    exact List.map_congr_left (fun f hf => if_neg (h f hf))
  · simp [hx]
theorem laid_ok (h : Alive D) {n : ByteArray} (hx : D.has n = false) (s : ByteArray) (hs0 : 0 < s.size) (hroom : (s.size : Int) ≤ D.cap - D.size) (b : Nat) :
    laidD D n s b = (0, { D with files := D.files ++ [⟨n, b, s, s⟩], waits := (D.waits ++ [(⟨b, 0, s⟩ : WaitS)]).filter (fun x => !decide (x.blk = b)) }) := by
  have hno := find_none_of hx
  have hcr : D.create n b = (0, { D with files := D.files ++ [⟨n, b, ⟨#[]⟩, ⟨#[]⟩⟩] }) := by
    unfold DiskS.create; rw [if_neg (by rw [h.down]; exact Bool.false_ne_true), if_neg (by rw [hx]; exact Bool.false_ne_true), h.doing]
  have a1 : Alive { D with files := D.files ++ [⟨n, b, ⟨#[]⟩, ⟨#[]⟩⟩] } := ⟨h.left, h.down⟩
  have hsz : DiskS.size { D with files := D.files ++ [⟨n, b, ⟨#[]⟩, ⟨#[]⟩⟩] } = D.size := by
    unfold DiskS.size; rw [total_append]; rfl
  have hwr : DiskS.write { D with files := D.files ++ [⟨n, b, ⟨#[]⟩, ⟨#[]⟩⟩] } n 0 s = (0, { D with files := D.files ++ [⟨n, b, ⟨#[]⟩, s⟩], waits := D.waits ++ [(⟨b, 0, s⟩ : WaitS)] }) := by
    unfold DiskS.write
    rw [if_neg (by rw [a1.down]; decide)]
    unfold DiskS.find
    rw [show List.find? (fun f : FileS => decide (f.name = n)) (D.files ++ [⟨n, b, ⟨#[]⟩, ⟨#[]⟩⟩]) = some ⟨n, b, ⟨#[]⟩, ⟨#[]⟩⟩ from find_last hno _ rfl]
    simp only
    rw [hsz]
    have h0 : (⟨#[]⟩ : ByteArray).size = 0 := rfl
    rw [if_neg (by rw [h0]; omega), if_neg (by rw [h0]; omega), a1.doing, if_neg (by omega)]
    unfold DiskS.turn
    simp only [turn_last hno ⟨n, b, ⟨#[]⟩, ⟨#[]⟩⟩ rfl]
    rw [show Int.toNat 0 = 0 from rfl, laid_empty]
  have a2 : Alive { D with files := D.files ++ [⟨n, b, ⟨#[]⟩, s⟩], waits := D.waits ++ [(⟨b, 0, s⟩ : WaitS)] } := ⟨h.left, h.down⟩
  have hsy : DiskS.sync { D with files := D.files ++ [⟨n, b, ⟨#[]⟩, s⟩], waits := D.waits ++ [(⟨b, 0, s⟩ : WaitS)] } [n] = (0, { D with files := D.files ++ [⟨n, b, s, s⟩], waits := (D.waits ++ [(⟨b, 0, s⟩ : WaitS)]).filter (fun x => !decide (x.blk = b)) }) := by
    have hb : DiskS.bars { D with files := D.files ++ [⟨n, b, ⟨#[]⟩, s⟩], waits := D.waits ++ [(⟨b, 0, s⟩ : WaitS)] } [n] = 0 := by
      rw [bars_one, if_neg (by rw [a2.down]; decide), if_pos ((has_iff _ n).2 ⟨⟨n, b, ⟨#[]⟩, s⟩, by simp, rfl⟩)]
    unfold DiskS.sync
    rw [if_neg (by rw [hb]; decide), a2.doing]
    simp only [List.foldl_cons, List.foldl_nil]
    unfold DiskS.last DiskS.find
    simp only [find_last hno ⟨n, b, ⟨#[]⟩, s⟩ rfl]
    unfold DiskS.turn DiskS.without
    simp only [turn_last hno ⟨n, b, ⟨#[]⟩, s⟩ rfl]
  unfold laidD
  rw [hcr]
  simp only [ne_eq, not_true_eq_false, if_false]
  rw [hwr]
  simp only [ne_eq, not_true_eq_false, if_false]
  exact hsy
/-- What a save that has room leaves. -/
theorem save_ok (h : Alive D) {nm : ByteArray} (hx : D.has (nm ++ freshN) = false) (hne : nm ++ freshN ≠ nm) (s : ByteArray) (hroom : ((s.size + 4 : Nat) : Int) ≤ D.cap - D.size) (b : Nat) :
    ∃ W', saveD D nm s b = (0, { D with files := (D.files.filter fun x => !decide (x.name = nm)) ++ [⟨nm, b, sealB s, sealB s⟩], waits := W' }) ∧ ∀ x ∈ W', x ∈ D.waits ∧ x.blk ≠ b := by
  have hno := find_none_of hx
  obtain ⟨nx, hnx⟩ : ∃ nx, nm ++ freshN = nx := ⟨_, rfl⟩
  have hl := laid_ok h hx (sealB s) (by rw [sealB_size]; omega) (by rw [sealB_size]; exact hroom) b
  have hc : clearD D nx = (0, D) := by unfold clearD; rw [← hnx, if_neg (by rw [hx]; decide)]
  unfold saveD
  rw [hnx] at hl hno hne ⊢
  rw [hc]
  simp only [ne_eq, not_true_eq_false, if_false]
  rw [hl]
  unfold endD
  simp only [ne_eq, not_true_eq_false, if_false]
  unfold DiskS.rename
  have a3 : Alive { D with files := D.files ++ [⟨nx, b, sealB s, sealB s⟩], waits := (D.waits ++ [(⟨b, 0, sealB s⟩ : WaitS)]).filter (fun x => !decide (x.blk = b)) } := ⟨h.left, h.down⟩
  rw [if_neg (by rw [a3.down]; decide)]
  have hfd : DiskS.find { D with files := D.files ++ [⟨nx, b, sealB s, sealB s⟩], waits := (D.waits ++ [(⟨b, 0, sealB s⟩ : WaitS)]).filter (fun x => !decide (x.blk = b)) } nx = some ⟨nx, b, sealB s, sealB s⟩ := find_last hno ⟨nx, b, sealB s, sealB s⟩ rfl
  rw [hfd]
  simp only
  rw [a3.doing, if_neg hne]
  have hfl : ∀ L : List FileS, (∀ f ∈ L, f.name ≠ nx) → ((L ++ [(⟨nx, b, sealB s, sealB s⟩ : FileS)]).filter fun x => !decide (x.name = nx)) = L := fun L hL => by
    rw [List.filter_append, List.filter_eq_self.2 (fun f hf => by simpa using hL f hf)]
    simp
  have hf1 : ((D.files ++ [(⟨nx, b, sealB s, sealB s⟩ : FileS)]).filter fun x => !decide (x.name = nm)) = (D.files.filter fun x => !decide (x.name = nm)) ++ [⟨nx, b, sealB s, sealB s⟩] := by
    rw [List.filter_append]
    simp [hne]
  unfold DiskS.drop
  cases hfm : DiskS.find { D with files := D.files ++ [⟨nx, b, sealB s, sealB s⟩], waits := (D.waits ++ [(⟨b, 0, sealB s⟩ : WaitS)]).filter (fun x => !decide (x.blk = b)) } nm with
  | none =>
    have hnn : ∀ f ∈ D.files, f.name ≠ nm := fun f hf => find_none hfm f (List.mem_append_left _ hf)
    have hfn : (D.files.filter fun x => !decide (x.name = nm)) = D.files := List.filter_eq_self.2 (fun f hf => by simpa using hnn f hf)
    refine ⟨_, by simp only; rw [hfl _ hno, hfn], fun x hx => ?_⟩
    rw [List.mem_filter] at hx
    have hxb : x.blk ≠ b := by simpa using hx.2
    rcases List.mem_append.1 hx.1 with h1 | h1
    · exact ⟨h1, hxb⟩
    · rw [List.mem_singleton] at h1; subst h1; exact absurd rfl hxb
  | some f =>
    refine ⟨_, by simp only [DiskS.without]; rw [hf1, hfl _ (fun f hf => hno f (List.mem_filter.1 hf).1)], fun x hx => ?_⟩
    simp only [DiskS.without, List.mem_filter] at hx
    have hxb : x.blk ≠ b := by simpa using hx.1.2
    rcases List.mem_append.1 hx.1.1 with h1 | h1
    · exact ⟨h1, hxb⟩
    · rw [List.mem_singleton] at h1; subst h1; exact absurd rfl hxb
end
end Go.Proofs.YtafdfmdcnniccaaGreat.tp

/- Layer 14: offsets' bytes are read back; Open, Flush. -/
namespace Go.Proofs.YtafdfmdcnniccaaGreat.ofs
open Go.ChangeShapes Go.WideShapes Go.ChangeAt Go.RowKit
open Go.Proofs.YtafdfmdcnniccaaGreat.dk Go.Proofs.YtafdfmdcnniccaaGreat.nm Go.Proofs.YtafdfmdcnniccaaGreat.oc Go.Proofs.YtafdfmdcnniccaaGreat.rc Go.Proofs.YtafdfmdcnniccaaGreat.tp

/-- Offsets that may be. -/
structure GoodL (l : List OffS) : Prop where
  few : l.length ≤ 64
  rising : Rising l
  ok : ∀ x ∈ l, rightO x = 0
theorem GoodL.nil : GoodL [] := ⟨Nat.zero_le _, List.Pairwise.nil, fun x hx => absurd hx List.not_mem_nil⟩
theorem goodO_iff {l : List OffS} {x : OffS} : goodO l x = true ↔ rightO x = 0 ∧ l.length ≠ 64 ∧ (l.length = 0 ∨ ordO l[l.length - 1]! x < 0) := by
  unfold goodO
  simp only [Bool.and_eq_true, Bool.or_eq_true, decide_eq_true_eq]
theorem last_of {l : List OffS} (h : 0 < l.length) : l[l.length - 1]! = l[l.length - 1] := getElem!_pos l (l.length - 1) (by omega)
theorem rising_snoc {l : List OffS} {x : OffS} (h : Rising l) (hx : l.length = 0 ∨ ordO l[l.length - 1]! x < 0) : Rising (l ++ [x]) := by
  refine List.pairwise_append.2 ⟨h, List.pairwise_singleton _ _, fun a ha b hb => ?_⟩
  rw [List.mem_singleton] at hb
  subst hb
  obtain ⟨i, hi, rfl⟩ := List.getElem_of_mem ha
  rcases hx with hx | hx
  · omega
  · rw [last_of (by omega)] at hx
    by_cases he : i = l.length - 1
    · subst he; exact hx
    · exact ord_trans (List.pairwise_iff_getElem.1 h i (l.length - 1) hi (by omega) (by omega)) hx
theorem GoodL.snoc {l : List OffS} {x : OffS} (h : GoodL l) (hx : goodO l x = true) : GoodL (l ++ [x]) := by
  obtain ⟨h1, h2, h3⟩ := goodO_iff.1 hx
  have := h.few
  refine ⟨by rw [List.length_append, List.length_singleton]; omega, rising_snoc h.rising h3, fun y hy => ?_⟩
  rcases List.mem_append.1 hy with hy | hy
  · exact h.ok y hy
  · rw [List.mem_singleton] at hy; subst hy; exact h1
theorem getN_good : ∀ (n : Nat) (R : Rdr) (l l' : List OffS) (R' : Rdr), getN n R l = some (l', R') → GoodL l → GoodL l'
  | 0, R, l, l', R', h, hl => by
    unfold getN at h
    cases h
    exact hl
  | n + 1, R, l, l', R', h, hl => by
    unfold getN at h
    split at h
    · cases h
    · rename_i hn
      refine getN_good n _ _ l' R' h (hl.snoc ?_)
      cases hb : goodO l ⟨(R.text 16).1, ((R.text 16).2.text 16).1, (((R.text 16).2.text 16).2.num 1).1, ((((R.text 16).2.text 16).2.num 1).2.num 6).1⟩ with
      | true => rfl
      | false => exact absurd (.inr hb) hn
theorem getO2_good {s : ByteArray} {l : List OffS} (h : getO2 s = some l) : GoodL l := by
  unfold getO2 at h
  split at h
  · cases h
  · rename_i l' R' hg
    split at h
    · cases h
      exact getN_good _ _ _ _ _ hg GoodL.nil
    · cases h
theorem getN_put : ∀ (r l : List OffS), GoodL (l ++ r) → getN r.length ⟨⟨(r.flatMap offL).toArray⟩, 0⟩ l = some (l ++ r, ⟨⟨#[]⟩, 0⟩)
  | [], l, _ => by simp [getN]
  | x :: r, l, h => by
    obtain ⟨z1, z2, z3, z4, z5, z6⟩ := rightO_ok (h.ok x (by simp))
    have hfl : (x :: r).flatMap offL = textL x.group ++ (textL x.topic ++ (low 1 x.queue.toNat ++ (low 6 x.at_.toNat ++ r.flatMap offL))) := by
      rw [List.flatMap_cons]; unfold offL; simp only [List.append_assoc]
    have h1 := text_back x.group 16 (by omega) (by omega) (textL x.topic ++ (low 1 x.queue.toNat ++ (low 6 x.at_.toNat ++ r.flatMap offL)))
    have h2 := text_back x.topic 16 (by omega) (by omega) (low 1 x.queue.toNat ++ (low 6 x.at_.toNat ++ r.flatMap offL))
    have h3 := num_back 1 x.queue.toNat (by decide) (by decide) (by show x.queue.toNat < 256; omega) (low 6 x.at_.toNat ++ r.flatMap offL)
    have h4 := num_back 6 x.at_.toNat (by decide) (by decide) (by show x.at_.toNat < 281474976710656; omega) (r.flatMap offL)
    have hx : (⟨x.group, x.topic, ((x.queue.toNat : Nat) : Int), ((x.at_.toNat : Nat) : Int)⟩ : OffS) = x := by
      obtain ⟨a, b, c, d⟩ := x
      simp only at z3 z5 ⊢
      rw [Int.toNat_of_nonneg z3, Int.toNat_of_nonneg z5]
    have hg : goodO l x = true := by
      refine goodO_iff.2 ⟨h.ok x (by simp), ?_, ?_⟩
      · have := h.few
        rw [List.length_append, List.length_cons] at this
        omega
      · by_cases h0 : l.length = 0
        · exact .inl h0
        · right
          rw [last_of (by omega)]
          have := List.pairwise_append.1 h.rising
          exact this.2.2 _ (List.getElem_mem (by omega)) x (List.mem_cons_self ..)
    have h3' : (⟨⟨(low 1 x.queue.toNat ++ (low 6 x.at_.toNat ++ r.flatMap offL)).toArray⟩, 0⟩ : Rdr).num 1 = ((x.queue.toNat : Int), ⟨⟨(low 6 x.at_.toNat ++ r.flatMap offL).toArray⟩, 0⟩) := h3
    have h4' : (⟨⟨(low 6 x.at_.toNat ++ r.flatMap offL).toArray⟩, 0⟩ : Rdr).num 6 = ((x.at_.toNat : Int), ⟨⟨(r.flatMap offL).toArray⟩, 0⟩) := h4
    rw [List.length_cons, hfl]
    unfold getN
    rw [h1]
    simp only
    rw [h2]
    simp only
    rw [h3']
    simp only
    rw [h4']
    simp only
    rw [hx, hg, if_neg (by simp), getN_put r (l ++ [x]) (by simpa using h)]
    simp
theorem getO2_put (l : List OffS) (h : GoodL l) : getO2 ⟨(putL l).toArray⟩ = some l := by
  have hl := h.few
  have hn : (⟨⟨(low 1 l.length ++ l.flatMap offL).toArray⟩, 0⟩ : Rdr).num 1 = ((l.length : Int), ⟨⟨(l.flatMap offL).toArray⟩, 0⟩) := num_back 1 l.length (by decide) (by decide) (by show l.length < 256; omega) (l.flatMap offL)
  unfold getO2 putL
  rw [hn]
  simp only [Int.toNat_natCast]
  rw [getN_put l [] h]
  rfl
theorem offL_le {x : OffS} (h : rightO x = 0) : (offL x).length ≤ 35 := by
  obtain ⟨z1, z2, _⟩ := rightO_ok h
  unfold offL
  simp only [List.length_append, textL_length, low_length]
  omega
theorem flat_le : ∀ (l : List OffS), (∀ x ∈ l, rightO x = 0) → (l.flatMap offL).length ≤ 35 * l.length
  | [], _ => Nat.zero_le _
  | x :: l, h => by
    have h1 := offL_le (h x (List.mem_cons_self ..))
    have h2 := flat_le l (fun y hy => h y (List.mem_cons_of_mem _ hy))
    rw [List.flatMap_cons, List.length_append, List.length_cons]
    omega
def putB (l : List OffS) : ByteArray := ⟨(putL l).toArray⟩
theorem putB_le {l : List OffS} (h : GoodL l) : (putB l).size ≤ 2241 := by
  have h1 := flat_le l h.ok
  have h2 := h.few
  have : (putB l).size = (putL l).length := by rw [← size_toList]; rfl
  rw [this]
  unfold putL
  rw [List.length_append, low_length]
  omega
abbrev groupsN : ByteArray := ⟨#[103, 114, 111, 117, 112, 115]⟩
/-- What Open finds. -/
def openO (D : DiskS) : Int × Option (List OffS) :=
  if (loadD D groupsN).2.2 ≠ 0 then ((loadD D groupsN).2.2, none) else if (loadD D groupsN).2.1 = false then (0, some []) else
  match getO2 (loadD D groupsN).1 with
  | none => (4, none)
  | some l => (0, some l)
def OpenDone (r : Int × Option (List OffS)) (p : Nat) (w : World) (e : Ending) (w' : World) : Prop := Calm w w' ∧ match r.2 with
  | none => e = .returned (.tuple #[.pointer none, .int .i64 r.1])
  | some l => ∃ o v, e = .returned (.tuple #[ptrTo o, .int .i64 0]) ∧ Ofs w.heap.size w' o p v l ∧ w.heap.size ≤ o
theorem calm_setc {a w : World} (h : Calm a w) {b k : Nat} (hp : a.heap.size ≤ b) (u : Value) : Calm a (w.setCell ⟨b, k, none⟩ u) :=
  ((Keeps.of_calm (F := fun b => a.heap.size ≤ b) h).setCell (p := ⟨b, k, none⟩) (.inr hp) u).below (Nat.le_refl _) (fun _ h => h)
section
variable {p n o B : Nat} {D : DiskS} {F : Nat → Prop} {l : List OffS} {v : Value}
set_option maxRecDepth 100000 in
set_option maxHeartbeats 4000000 in
theorem Open_of (w : World) (h : DiskOk w p D F n) (hs : (D.all groupsN).1.size ≤ 1000000) (ht : (loadD D groupsN).1.size ≤ 1000000) :
    Calls Tryz.prog 8 #[ptrTo p] w (OpenDone (openO D) p w) := by
  have hload := box (Load_any groupsN w h hs)
  clear h hs
  unfold openO
  obtain ⟨⟨u, ok, c⟩, hr⟩ : ∃ r, loadD D groupsN = r := ⟨_, rfl⟩
  rw [hr] at hload ht ⊢
  simp only at hload ht ⊢
  clear hr
  by_cases hc : c = 0
  · subst hc
    rw [if_neg (fun h => h rfl)]
    cases ok
    · rw [if_pos rfl]
      go_enter Tryz.func8, Tryz.ntmps8
      go_wp2_with fail
      refine hload.out.mono ?_
      rintro e w1 ⟨rfl, hc1⟩
      have HC1 := box hc1
      clear hc1 hload
      go_wp2_with fail
      go_ret2
      exact ⟨HC1.out.alloc _, w1.heap.size, _, rfl, ⟨heap_new w1 _, World.ownsRow_nil _ _ _ _, Nat.zero_le _, List.Pairwise.nil, fun x hx => absurd hx List.not_mem_nil⟩, HC1.out.size⟩
    · rw [if_neg (by decide)]
      have hget := box (fun W => get_any u W ht)
      have hgood := box (fun l h => (getO2_good (s := u) (l := l) h))
      obtain ⟨G, hG⟩ : ∃ G, getO2 u = G := ⟨_, rfl⟩
      rw [hG] at hget hgood ⊢
      clear hG
      go_enter Tryz.func8, Tryz.ntmps8
      go_wp2_with fail
      refine hload.out.mono ?_
      rintro e w1 ⟨rfl, hc1⟩
      have HC1 := box hc1
      have hca := (Calm.refl w1).alloc (.cells #[ptrTo p, .slice none 0 0] 58)
      have hna := heap_new w1 (.cells #[ptrTo p, .slice none 0 0] 58)
      have HCa := box hca
      have Hna := box hna
      clear hc1 hload hca hna
      go_wp2_with fail
      refine (hget.out _).mono ?_
      rintro e w2 ⟨v, ok, rfl, hg, hc2⟩
      have j2 := heap_calm hc2 Hna.out
      have r1 := cell_of j2 1
      have f1 := free_of j2 1
      have jlt := heap_lt j2
      have HC2 := box hc2
      have J2 := box j2
      have HG := box hg
      clear hc2 hg j2
      cases G with
      | none =>
        obtain ⟨rfl, va, vm, vc, rfl⟩ := HG.out
        go_wp2_with fail
        go_ret2
        exact ⟨calm_setc (HC1.out.trans (HCa.out.trans HC2.out)) HC1.out.size _, rfl⟩
      | some l =>
        obtain ⟨rfl, hrow⟩ := HG.out
        obtain ⟨a, cap, rfl, _⟩ := offRow.offs hrow
        have Hrow := box hrow
        clear hrow
        go_wp2_with fail
        go_ret2
        have hgo := hgood.out l rfl
        refine ⟨calm_setc (HC1.out.trans (HCa.out.trans HC2.out)) HC1.out.size _, w1.heap.size, _, rfl, ⟨heap_set J2.out 1 _, ?_, hgo.few, hgo.rising, hgo.ok⟩, HC1.out.size⟩
        have hlt : w.heap.size ≤ w1.heap.size := HC1.out.size
        exact row_base (row_zero (row_same Hrow.out (fun g hg => heap_set_other (fun e => by
          have := (Hrow.out.lt g hg).1
          rw [World.size_alloc] at this
          omega) 1 _))) (fun g hg => by
          have := (Hrow.out.lt g hg).1
          rw [World.size_alloc] at this
          omega)
  · rw [if_pos hc]
    have hne : (c == 0) = false := beq_eq_false_iff_ne.2 hc
    have hne2 : (c != 0) = true := by simp [bne, hne]
    go_enter Tryz.func8, Tryz.ntmps8
    go_wp2_with fail
    refine hload.out.mono ?_
    rintro e w1 ⟨rfl, hc1⟩
    have HC1 := box hc1
    clear hc1 hload
    go_wp2_with fail
    go_ret2
    exact ⟨HC1.out, rfl⟩
theorem off_apart {w : World} (h : DiskOk w p D F n) (hr : offRow B w v l) {g : Nat} (hg : v.ownBlock = some g) : ¬ F g := fun hf => by
  obtain ⟨cur, hc⟩ := own_row hr hg
  obtain ⟨mb, wv, h1, rfl⟩ := h.lies
  rcases hf with rfl | rfl | hf | hf
  · rw [h1.obj] at hc; simp only [Option.some.injEq, Obj.cells.injEq] at hc; exact absurd hc.2.1 (by decide)
  · obtain ⟨es, c, hm, _⟩ := h1.map; rw [hm] at hc; cases hc
  · obtain ⟨c, hc2⟩ := own_row h1.waits hf; rw [hc2] at hc; simp only [Option.some.injEq, Obj.cells.injEq] at hc; exact absurd hc.2.1 (by decide)
  · obtain ⟨f, hf', rfl⟩ := List.mem_map.1 hf
    rw [h1.files f hf'] at hc; simp only [Option.some.injEq, Obj.cells.injEq] at hc; exact absurd hc.2.1 (by decide)
theorem ofs_apart {w : World} (h : DiskOk w p D F n) {q : Nat} (hT : OffAt w o q v) : ¬ F o := fun hf => by
  unfold OffAt at hT
  obtain ⟨mb, wv, h1, rfl⟩ := h.lies
  rcases hf with rfl | rfl | hf | hf
  · rw [h1.obj] at hT; simp only [Option.some.injEq, Obj.cells.injEq] at hT; exact absurd hT.2.1 (by decide)
  · obtain ⟨es, c, hm, _⟩ := h1.map; rw [hm] at hT; cases hT
  · obtain ⟨c, hc2⟩ := own_row h1.waits hf; rw [hc2] at hT; simp only [Option.some.injEq, Obj.cells.injEq] at hT; exact absurd hT.2.1 (by decide)
  · obtain ⟨f, hf', rfl⟩ := List.mem_map.1 hf
    rw [h1.files f hf'] at hT; simp only [Option.some.injEq, Obj.cells.injEq] at hT; exact absurd hT.2.1 (by decide)
theorem Ofs.step {w w' : World} {F' : Nat → Prop} {q : Nat} (hO : Ofs B w o q v l) (h : DiskOk w p D F n) (s : Step F w F' w') : Ofs B w' o q v l :=
  ⟨s.same hO.at_ (ofs_apart h hO.at_), row_same hO.row (fun g hg => s.keeps.block g (hO.row.lt g hg).2 (off_apart h hO.row hg)), hO.few, hO.rising, hO.ok⟩
def FlushDone (D : DiskS) (l : List OffS) (p : Nat) (F : Nat → Prop) (n : Nat) (w : World) (e : Ending) (w' : World) : Prop := ∃ b, w.heap.size ≤ b ∧ OkDone (saveD D groupsN (putB l) b) p F (n + 1) w e w'
set_option maxRecDepth 100000 in
set_option maxHeartbeats 4000000 in
theorem Flush_any (w : World) (h : DiskOk w p D F n) (hO : Ofs B w o p v l) (hn : n ≤ 999980) (hf : ∀ f ∈ D.files, f.name.size ≤ maxLen) (hl : D.files.length ≤ 1000000) :
    Calls Tryz.prog 11 #[ptrTo o] w (FlushDone D l p F n w) := by
  have hg : GoodL l := ⟨hO.few, hO.rising, hO.ok⟩
  have hsz := putB_le hg
  have hput := box (fun W (hc : Calm w W) => put_any v l W (hO.row.offs.calm hc) (by have := hO.few; omega) hO.ok)
  have hsave := box (fun W (hc : Calm w W) => Save_any groupsN (putB l) W (h.calm hc) hn (by omega) (by decide) hf hl)
  have Hcell := box (fun W (hc : Calm w W) => (show W.cell? ⟨o, 0, none⟩ = some (ptrTo p) ∧ W.cell? ⟨o, 1, none⟩ = some v from ⟨cell_of (heap_calm hc hO.at_) 0, cell_of (heap_calm hc hO.at_) 1⟩))
  have c0 := cell_of hO.at_ 0
  have c1 := cell_of hO.at_ 1
  have olt := heap_lt hO.at_
  have Hat := box hO.at_
  have Hd := box h
  obtain ⟨a, cap, hv, _⟩ := hO.row.offs
  have HO := box hO
  clear h hO hg hf hl
  subst hv
  unfold FlushDone
  unfold putB at hsave ⊢
  obtain ⟨u, hu⟩ : ∃ u : ByteArray, ⟨(putL l).toArray⟩ = u := ⟨_, rfl⟩
  rw [hu] at hput hsave
  go_enter Tryz.func11, Tryz.ntmps11
  go_upto_region 3 with fail
  go_region_held3 (fun w' => w'.cell? ⟨o, 0, none⟩ = some (ptrTo p) ∧ w'.cell? ⟨o, 1, none⟩ = some (.slice a l.length cap)) (first | go_keep | exact ⟨cell_of (hs8.same (heap_calm (show Calm w _ by (repeat' (first | (with_reducible exact Calm.refl _) | (with_reducible assumption) | (with_reducible refine Calm.drew ?_) | (with_reducible refine Calm.alloc ?_ _) | (with_reducible refine Calm.trans ?_ (by assumption))))) Hat.out) (ofs_apart (Hd.out.calm (show Calm w _ by (repeat' (first | (with_reducible exact Calm.refl _) | (with_reducible assumption) | (with_reducible refine Calm.drew ?_) | (with_reducible refine Calm.alloc ?_ _) | (with_reducible refine Calm.trans ?_ (by assumption)))))) (heap_calm (show Calm w _ by (repeat' (first | (with_reducible exact Calm.refl _) | (with_reducible assumption) | (with_reducible refine Calm.drew ?_) | (with_reducible refine Calm.alloc ?_ _) | (with_reducible refine Calm.trans ?_ (by assumption))))) Hat.out))) 0, cell_of (hs8.same (heap_calm (show Calm w _ by (repeat' (first | (with_reducible exact Calm.refl _) | (with_reducible assumption) | (with_reducible refine Calm.drew ?_) | (with_reducible refine Calm.alloc ?_ _) | (with_reducible refine Calm.trans ?_ (by assumption))))) Hat.out) (ofs_apart (Hd.out.calm (show Calm w _ by (repeat' (first | (with_reducible exact Calm.refl _) | (with_reducible assumption) | (with_reducible refine Calm.drew ?_) | (with_reducible refine Calm.alloc ?_ _) | (with_reducible refine Calm.trans ?_ (by assumption)))))) (heap_calm (show Calm w _ by (repeat' (first | (with_reducible exact Calm.refl _) | (with_reducible assumption) | (with_reducible refine Calm.drew ?_) | (with_reducible refine Calm.alloc ?_ _) | (with_reducible refine Calm.trans ?_ (by assumption))))) Hat.out))) 1⟩ | exact Hcell.out _ (by (repeat' (first | (with_reducible exact Calm.refl _) | (with_reducible assumption) | (with_reducible refine Calm.drew ?_) | (with_reducible refine Calm.alloc ?_ _) | (with_reducible refine Calm.trans ?_ (by assumption)))))) (first
    | (go_at_call 28; refine (hput.out _ (by (repeat' (first | (with_reducible exact Calm.refl _) | (with_reducible assumption) | (with_reducible refine Calm.drew ?_) | (with_reducible refine Calm.alloc ?_ _) | (with_reducible refine Calm.trans ?_ (by assumption)))))).mono ?_; rintro e w7 ⟨rfl, hc7⟩)
    | (go_at_call 27; refine (hsave.out _ (by (repeat' (first | (with_reducible exact Calm.refl _) | (with_reducible assumption) | (with_reducible refine Calm.drew ?_) | (with_reducible refine Calm.alloc ?_ _) | (with_reducible refine Calm.trans ?_ (by assumption)))))).mono ?_; rintro e w8 ⟨b8, hb8, rfl, F8, h8, hs8⟩))
  have hcw7 : Calm w w7 := by (repeat' (first | (with_reducible exact Calm.refl _) | (with_reducible assumption) | (with_reducible refine Calm.drew ?_) | (with_reducible refine Calm.alloc ?_ _) | (with_reducible refine Calm.trans ?_ (by assumption))))
  have HB8 := box (Nat.le_trans hcw7.size hb8)
  have HH := box (And.intro h8 (Step.calm_left hcw7 hs8))
  clear hb8 h8 hs8 hcw7 hc7 hput hsave c0 c1
  obtain ⟨r, hr⟩ : ∃ r, saveD D groupsN u b8 = r := ⟨_, rfl⟩
  rw [hr] at HH ⊢
  have Hr := box hr
  clear hr
  go_wp2_with fail
  go_ret
  refine ⟨b8, HB8.out, ?_⟩
  rw [hu, Hr.out]
  exact ⟨rfl, F8, HH.out.1, HH.out.2⟩
end
end Go.Proofs.YtafdfmdcnniccaaGreat.ofs

/- Layer 14's laws: find, same. -/
namespace Go.Proofs.YtafdfmdcnniccaaGreat.ofs
open Go.ChangeShapes Go.WideShapes Go.ChangeAt Go.RowKit
open Go.Proofs.YtafdfmdcnniccaaGreat.dk Go.Proofs.YtafdfmdcnniccaaGreat.nm

theorem find_snocO (l : List OffS) (x : OffS) (k : Nat) (hk : k < l.length) (h : findO (l.take k) x = none) :
    (sameK x l[k] = true → findO l x = some l[k]) ∧ (sameK x l[k] = false → findO (l.take (k + 1)) x = none) := by
  unfold findO at h ⊢
  constructor
  · intro he
    have : l = l.take k ++ l[k] :: l.drop (k + 1) := by rw [← List.drop_eq_getElem_cons hk, List.take_append_drop]
    refine (congrArg (List.find? (fun y => sameK x y)) this).trans ?_
    rw [List.find?_append, h, List.find?_cons_of_pos (p := fun y => sameK x y) he]
    rfl
  · intro he
    rw [List.take_succ_eq_append_getElem hk, List.find?_append, h]
    simp [he]
def FindDone (l : List OffS) (x : OffS) (w : World) (e : Ending) (w' : World) : Prop :=
  Calm w w' ∧ ((findO l x = none ∧ e = .returned (.int .i64 (-1))) ∨ ∃ (k : Nat) (hk : k < l.length), findO l x = some l[k] ∧ e = .returned (.int .i64 (k : Nat)))
theorem bytes_ne {a b : ByteArray} (h : a ≠ b) : (a.toList == b.toList) = false := beq_eq_false_iff_ne.2 (fun e => h (toList_inj e))
set_option maxRecDepth 100000 in
set_option maxHeartbeats 4000000 in
theorem find_any (v : Value) (l : List OffS) (x : OffS) (w : World) (h : OffsAt w v l) (hl : l.length ≤ 1000000) :
    Calls Tryz.prog 15 #[v, .agg (offA x)] w (FindDone l x w) := by
  obtain ⟨a, cap, rfl, _, hc⟩ := h
  have Hc := box hc
  obtain ⟨xg, xt, xq, xa⟩ := x
  unfold offA
  simp only
  have Hn0 := box (heap_new w (.cells #[.string xg, .string xt, .int .i64 xq, .int .i64 xa] 31))
  have HC0 := box ((Calm.refl w).alloc (.cells #[.string xg, .string xt, .int .i64 xq, .int .i64 xa] 31))
  clear hc
  go_enter Tryz.func15, Tryz.ntmps15
  go_wp2_with fail
  go_loopw [9] (fun iv wr => ∃ k : Nat, k ≤ l.length ∧ iv = .int .i64 k ∧ Box (findO (l.take k) ⟨xg, xt, xq, xa⟩ = none) ∧ Calm (w.alloc (.cells #[.string xg, .string xt, .int .i64 xq, .int .i64 xa] 31)) wr) (fun iv _ => l.length - (intOf iv).toNat)
  case atStart => exact ⟨0, Nat.zero_le _, rfl, box rfl, .refl _⟩
  case round =>
    obtain ⟨k, hk, rfl, HB, hcr⟩ := hrel
    have HCr := box hcr
    have jt := heap_calm hcr Hn0.out
    have t0 := cell_of jt 0
    have t1 := cell_of jt 1
    have t2 := cell_of jt 2
    have tlt := heap_lt jt
    clear jt hcr
    obtain ⟨wo, hwo⟩ : ∃ wo : World, wo = wr := ⟨_, rfl⟩
    subst hwo
    by_cases hlt : k < l.length
    · obtain ⟨b, off, rfl, hb, d0, d1, d2, d3⟩ := Hc.out k hlt
      have c0 := ((HC0.out.trans HCr.out).cell (p := ⟨b, off + k * 4, none⟩) hb).trans d0
      have c1 := ((HC0.out.trans HCr.out).cell (p := ⟨b, off + k * 4 + 1, none⟩) hb).trans d1
      have c2 := ((HC0.out.trans HCr.out).cell (p := ⟨b, off + k * 4 + 2, none⟩) hb).trans d2
      have c3 := ((HC0.out.trans HCr.out).cell (p := ⟨b, off + k * 4 + 3, none⟩) hb).trans d3
      have hb' := Nat.lt_of_lt_of_le hb (HC0.out.trans HCr.out).size
      have hsn := box (find_snocO l ⟨xg, xt, xq, xa⟩ k hlt HB.out)
      obtain ⟨⟨yg, yt, yq, ya⟩, hy⟩ : ∃ y, l[k] = y := ⟨_, rfl⟩
      simp only [hy] at c0 c1 c2 c3
      have HY := box hy
      have hsk := box (show sameK ⟨xg, xt, xq, xa⟩ ⟨yg, yt, yq, ya⟩ = (decide (yg = xg) && (decide (yt = xt) && decide (yq = xq))) from rfl)
      have HCa := box (HCr.out.alloc (.cells #[.string yg, .string yt, .int .i64 yq, .int .i64 ya] 31))
      clear d0 d1 d2 d3 hy HB
      by_cases hg : yg = xg
      · subst hg
        by_cases ht : yt = xt
        · subst ht
          by_cases hq : yq = xq
          · subst hq
            have Hf := box (hsn.out.1 (by rw [HY.out, hsk.out]; simp))
            clear hsn hsk
            go_wp2_with (first | go_quiet (fail) | fail)
            go_ret
            exact ⟨HC0.out.trans HCa.out, .inr ⟨k, hlt, Hf.out, rfl⟩⟩
          · have hqb : (yq == xq) = false := beq_eq_false_iff_ne.2 hq
            have Hf := box (hsn.out.2 (by rw [HY.out, hsk.out]; simp [hq]))
            clear hsn hsk
            go_wp2_with (first | go_quiet (fail) | fail)
            go_roundw
            case rel => exact ⟨k + 1, by omega, by go_num, Hf, HCa.out⟩
            case measure => simp [intOf]; omega
        · have htb := bytes_ne ht
          have Hf := box (hsn.out.2 (by rw [HY.out, hsk.out]; simp [ht]))
          clear hsn hsk
          go_wp2_with (first | go_quiet (fail) | fail)
          go_roundw
          case rel => exact ⟨k + 1, by omega, by go_num, Hf, HCa.out⟩
          case measure => simp [intOf]; omega
      · have hgb := bytes_ne hg
        have Hf := box (hsn.out.2 (by rw [HY.out, hsk.out]; simp [hg]))
        clear hsn hsk
        go_wp2_with (first | go_quiet (fail) | fail)
        go_roundw
        case rel => exact ⟨k + 1, by omega, by go_num, Hf, HCa.out⟩
        case measure => simp [intOf]; omega
    · obtain rfl : k = l.length := by omega
      have hf := HB.out
      rw [List.take_length] at hf
      have Hf := box hf
      clear hf
      go_wp2_with fail
      go_ret
      exact ⟨HC0.out.trans HCr.out, .inl ⟨Hf.out, rfl⟩⟩
end Go.Proofs.YtafdfmdcnniccaaGreat.ofs

/- Layer 14's laws: same. -/
namespace Go.Proofs.YtafdfmdcnniccaaGreat.ofs
open Go.ChangeShapes Go.WideShapes Go.ChangeAt Go.RowKit
open Go.Proofs.YtafdfmdcnniccaaGreat.dk Go.Proofs.YtafdfmdcnniccaaGreat.nm

/-- Does a list tell the offset? -/
def tellsO (b : List OffS) (x : OffS) : Bool := match findO b x with
  | some y => decide (y.at_ = x.at_)
  | none => false
def sameO (a b : List OffS) : Bool := decide (a.length = b.length) && a.all (tellsO b)
theorem all_snoc (p : OffS → Bool) (l : List OffS) (k : Nat) (hk : k < l.length) (h : (l.take k).all p = true) : (p l[k] = true → (l.take (k + 1)).all p = true) ∧ (p l[k] = false → l.all p = false) := by
  constructor
  · intro he
    rw [List.take_succ_eq_append_getElem hk, List.all_append, h]
    simp [he]
  · intro he
    exact Bool.eq_false_iff.2 fun ha => by
      have := List.all_eq_true.1 ha l[k] (List.getElem_mem hk)
      rw [he] at this
      cases this
set_option maxRecDepth 100000 in
set_option maxHeartbeats 4000000 in
theorem same_any (v u : Value) (l m : List OffS) (w : World) (h : OffsAt w v l) (g : OffsAt w u m) (hl : l.length ≤ 1000000) (hm : m.length ≤ 1000000) :
    Calls Tryz.prog 12 #[v, u] w fun e w' => e = .returned (.bool (sameO l m)) ∧ Calm w w' := by
  have hfind := box (fun (x : OffS) (W : World) (hc : Calm w W) => find_any u m x W (g.calm hc) hm)
  obtain ⟨a, cap, rfl, _, hc⟩ := h
  obtain ⟨b, bcap, rfl, _, hg⟩ := g
  have Hc := box hc
  have Hg := box hg
  have Hs := box (show sameO l m = (decide (l.length = m.length) && l.all (tellsO m)) from rfl)
  obtain ⟨r, hr⟩ : ∃ r, sameO l m = r := ⟨_, rfl⟩
  rw [hr] at Hs ⊢
  clear hc hg hr
  by_cases hlen : l.length = m.length
  · have Hlen := box hlen
    have hlb : ((l.length : Int) == (m.length : Int)) = true := beq_iff_eq.2 (by omega)
    have hlb2 : ((l.length : Int) != (m.length : Int)) = false := by rw [bne, hlb]; rfl
    clear hlen
    go_enter Tryz.func12, Tryz.ntmps12
    go_wp2_with fail
    go_loopw [15] (fun iv wr => ∃ k : Nat, k ≤ l.length ∧ iv = .int .i64 k ∧ Box ((l.take k).all (tellsO m) = true) ∧ Calm w wr) (fun iv _ => l.length - (intOf iv).toNat)
    case atStart => exact ⟨0, Nat.zero_le _, rfl, box rfl, .refl _⟩
    case round =>
      obtain ⟨k, hk, rfl, HB, hcr⟩ := hrel
      have HCr := box hcr
      clear hcr
      obtain ⟨wo, hwo⟩ : ∃ wo : World, wo = wr := ⟨_, rfl⟩
      subst hwo
      by_cases hlt : k < l.length
      · obtain ⟨xb, xo, rfl, hb, d0, d1, d2, d3⟩ := Hc.out k hlt
        have c0 := (HCr.out.cell (p := ⟨xb, xo + k * 4, none⟩) hb).trans d0
        have c1 := (HCr.out.cell (p := ⟨xb, xo + k * 4 + 1, none⟩) hb).trans d1
        have c2 := (HCr.out.cell (p := ⟨xb, xo + k * 4 + 2, none⟩) hb).trans d2
        have c3 := (HCr.out.cell (p := ⟨xb, xo + k * 4 + 3, none⟩) hb).trans d3
        have hb' := Nat.lt_of_lt_of_le hb HCr.out.size
        have hsn := box (all_snoc (tellsO m) l k hlt HB.out)
        obtain ⟨x, hx⟩ : ∃ x, l[k] = x := ⟨_, rfl⟩
        simp only [hx] at c0 c1 c2 c3 hsn
        clear d0 d1 d2 d3 hx HB
        have ht : tellsO m x = match findO m x with | some y => decide (y.at_ = x.at_) | none => false := rfl
        have Ht := box ht
        clear ht
        have hfx := box (fun (W : World) (hc : Calm w W) => hfind.out x W hc)
        obtain ⟨xg, xt, xq, xa⟩ := x
        unfold offA at hfx
        simp only at c0 c1 c2 c3 hfx
        have Ha := box ((Calm.refl wo).alloc (.cells #[.string xg, .string xt, .int .i64 xq, .int .i64 xa] 31))
        have Hna := box (heap_new wo (.cells #[.string xg, .string xt, .int .i64 xq, .int .i64 xa] 31))
        go_wp2_with fail
        refine (hfx.out _ (HCr.out.trans Ha.out)).mono ?_
        rintro e w5 ⟨hc5, hres⟩
        have HC5 := box hc5
        have HX5 := heap_calm hc5 Hna.out
        have x3 := cell_of HX5 3
        have xlt := heap_lt HX5
        rcases hres with ⟨hnone, rfl⟩ | ⟨j, hj, hsome, rfl⟩
        · have Hf := box (show r = false by rw [Hs.out, (hsn.out.2 (by rw [Ht.out, hnone])), Bool.and_false])
          clear hnone hc5 HX5 hsn hfx c0 c1 c2 c3
          go_wp2_with fail
          go_upto_region 7 with fail
          refine wp_region_held_drew (S := fun _ => True) (by kernel_rfl) trivial (fun hHeld => ?_)
          ((refine' wpAnyH_take (i := 0) (v := _) rfl (by kernel_rfl) (by kernel_rfl) (by kernel_rfl) (fun _ _ _ h => h) (Or.inl ⟨by rfl, ?hy701⟩) (by assumption) ?rest701; (case hy701 => (intro w hSw; (try dsimp only at hSw); go_simp <;> with_reducible rfl)); simp only [List.getElem_toArray, List.getElem_cons_succ, List.getElem_cons_zero, Act.put, List.setIfInBounds_toArray, List.set_cons_zero, List.set_cons_succ]); (refine' wpAnyH_take (i := 1) (v := _) rfl (by kernel_rfl) (by kernel_rfl) (by kernel_rfl) (fun _ _ _ h => h) (Or.inl ⟨by rfl, ?hy702⟩) (by assumption) ?rest702; (case hy702 => (intro w hSw; (try dsimp only at hSw); go_simp <;> with_reducible rfl)); simp only [List.getElem_toArray, List.getElem_cons_succ, List.getElem_cons_zero, Act.put, List.setIfInBounds_toArray, List.set_cons_zero, List.set_cons_succ]); (refine' wpAnyH_take (i := 2) (v := _) rfl (by kernel_rfl) (by kernel_rfl) (by kernel_rfl) (fun _ _ _ h => h) (Or.inl ⟨by rfl, ?hy703⟩) (by assumption) ?rest703; (case hy703 => (intro w hSw; (try dsimp only at hSw); go_simp <;> with_reducible rfl)); simp only [List.getElem_toArray, List.getElem_cons_succ, List.getElem_cons_zero, Act.put, List.setIfInBounds_toArray, List.set_cons_zero, List.set_cons_succ]))
          ((refine' wpAnyH_take (i := 3) (v := _) rfl (by kernel_rfl) (by kernel_rfl) (by kernel_rfl) (fun _ _ _ h => h) (Or.inr ⟨by rfl, rfl⟩) (by assumption) ?rest704; simp only [List.getElem_toArray, List.getElem_cons_succ, List.getElem_cons_zero, Act.put, List.setIfInBounds_toArray, List.set_cons_zero, List.set_cons_succ]); (refine' wpAnyH_take (i := 4) (v := _) rfl (by kernel_rfl) (by kernel_rfl) (by kernel_rfl) (fun _ _ _ h => h) (Or.inr ⟨by rfl, rfl⟩) (by assumption) ?rest705; simp only [List.getElem_toArray, List.getElem_cons_succ, List.getElem_cons_zero, Act.put, List.setIfInBounds_toArray, List.set_cons_zero, List.set_cons_succ]); (refine' wpAnyH_take (i := 5) (v := _) rfl (by kernel_rfl) (by kernel_rfl) (by kernel_rfl) (fun _ _ _ h => h) (Or.inr ⟨by rfl, rfl⟩) (by assumption) ?rest706; simp only [List.getElem_toArray, List.getElem_cons_succ, List.getElem_cons_zero, Act.put, List.setIfInBounds_toArray, List.set_cons_zero, List.set_cons_succ]); (refine' wpAnyH_take (i := 6) (v := _) rfl (by kernel_rfl) (by kernel_rfl) (by kernel_rfl) (fun _ _ _ h => h) (Or.inr ⟨by rfl, rfl⟩) (by assumption) ?rest707; simp only [List.getElem_toArray, List.getElem_cons_succ, List.getElem_cons_zero, Act.put, List.setIfInBounds_toArray, List.set_cons_zero, List.set_cons_succ]); (refine' wpAnyH_take (i := 7) (v := _) rfl (by kernel_rfl) (by kernel_rfl) (by kernel_rfl) (fun _ _ _ h => h) (Or.inr ⟨by rfl, rfl⟩) (by assumption) ?rest708; simp only [List.getElem_toArray, List.getElem_cons_succ, List.getElem_cons_zero, Act.put, List.setIfInBounds_toArray, List.set_cons_zero, List.set_cons_succ]); (refine' wpAnyH_take (i := 8) (v := _) rfl (by kernel_rfl) (by kernel_rfl) (by kernel_rfl) (fun _ _ _ h => h) (Or.inr ⟨by rfl, rfl⟩) (by assumption) ?rest709; simp only [List.getElem_toArray, List.getElem_cons_succ, List.getElem_cons_zero, Act.put, List.setIfInBounds_toArray, List.set_cons_zero, List.set_cons_succ]); (refine' wpAnyH_take (i := 9) (v := _) rfl (by kernel_rfl) (by kernel_rfl) (by kernel_rfl) (fun _ _ _ h => h) (Or.inr ⟨by rfl, rfl⟩) (by assumption) ?rest710; simp only [List.getElem_toArray, List.getElem_cons_succ, List.getElem_cons_zero, Act.put, List.setIfInBounds_toArray, List.set_cons_zero, List.set_cons_succ]); (refine' wpAnyH_take (i := 10) (v := _) rfl (by kernel_rfl) (by kernel_rfl) (by kernel_rfl) (fun _ _ _ h => h) (Or.inr ⟨by rfl, rfl⟩) (by assumption) ?rest711; simp only [List.getElem_toArray, List.getElem_cons_succ, List.getElem_cons_zero, Act.put, List.setIfInBounds_toArray, List.set_cons_zero, List.set_cons_succ]))
          ((refine' wpAnyH_take (i := 11) (v := _) rfl (by kernel_rfl) (by kernel_rfl) (by kernel_rfl) (fun _ _ _ h => h) (Or.inl ⟨by rfl, ?hy712⟩) (by assumption) ?rest712; (case hy712 => (intro w hSw; (try dsimp only at hSw); go_simp <;> with_reducible rfl)); simp only [List.getElem_toArray, List.getElem_cons_succ, List.getElem_cons_zero, Act.put, List.setIfInBounds_toArray, List.set_cons_zero, List.set_cons_succ]))
          refine wpAnyH_done (by kernel_rfl) ?_ _
          go_wp2_with fail
          go_ret
          exact ⟨ret_bool (by rw [Hf.out]), HCr.out.trans (Ha.out.trans HC5.out.drew)⟩
        · obtain ⟨yb, yo, rfl, hyb, e0, e1, e2, e3⟩ := Hg.out j hj
          have y3 := ((HCr.out.trans (Ha.out.trans HC5.out)).cell (p := ⟨yb, yo + j * 4 + 3, none⟩) hyb).trans e3
          have hyb' := Nat.lt_of_lt_of_le hyb (HCr.out.trans (Ha.out.trans HC5.out)).size
          have htl : tellsO m ⟨xg, xt, xq, xa⟩ = decide (m[j].at_ = xa) := by rw [Ht.out, hsome]
          obtain ⟨ya, hya⟩ : ∃ ya, m[j].at_ = ya := ⟨_, rfl⟩
          rw [hya] at y3 htl
          have Htl := box htl
          clear e0 e1 e2 e3 hsome hya htl hc5 HX5 hfx c0 c1 c2 c3
          by_cases hq : ya = xa
          · subst hq
            have HB2 := box (hsn.out.1 (by rw [Htl.out]; simp))
            clear hsn
            go_wp2_with fail
            go_quiet (fail)
            go_wp2_with fail
            go_roundw
            case rel => exact ⟨k + 1, by omega, by go_num, HB2, (HCr.out.trans (Ha.out.trans HC5.out)).drewN _⟩
            case measure => simp [intOf]; omega
          · have hqb : (ya == xa) = false := beq_eq_false_iff_ne.2 hq
            have hqb2 : (ya != xa) = true := by rw [bne, hqb]; rfl
            have Hf := box (show r = false by rw [Hs.out, (hsn.out.2 (by rw [Htl.out]; simp [hq])), Bool.and_false])
            clear hsn
            go_wp2_with fail
            go_quiet (fail)
            go_wp2_with fail
            go_ret
            exact ⟨ret_bool (by rw [Hf.out]), (HCr.out.trans (Ha.out.trans HC5.out)).drewN _⟩
      · obtain rfl : k = l.length := by omega
        have hf := HB.out
        rw [List.take_length] at hf
        have Hf := box (show r = true by rw [Hs.out, hf, decide_eq_true Hlen.out]; rfl)
        clear hf
        go_wp2_with fail
        go_ret
        exact ⟨ret_bool (by rw [Hf.out]), HCr.out⟩
  · have hlb : ((l.length : Int) == (m.length : Int)) = false := beq_eq_false_iff_ne.2 (by omega)
    have hlb2 : ((l.length : Int) != (m.length : Int)) = true := by rw [bne, hlb]; rfl
    have Hf := box (show r = false by rw [Hs.out, decide_eq_false hlen]; rfl)
    go_enter Tryz.func12, Tryz.ntmps12
    go_wp2_with fail
    go_ret
    exact ⟨ret_bool (by rw [Hf.out]), .refl _⟩
theorem same_self {l : List OffS} (h : Rising l) : sameO l l = true := by
  unfold sameO
  rw [decide_eq_true rfl, Bool.true_and, List.all_eq_true]
  intro x hx
  have hf : findO l x = some x := by
    obtain ⟨i, hi, rfl⟩ := List.getElem_of_mem hx
    cases hq : findO l l[i] with
    | none =>
      have := List.find?_eq_none.1 hq l[i] hx
      rw [sameK_self] at this
      exact absurd rfl this
    | some y =>
      have h1 : sameK l[i] y = true := List.find?_some hq
      obtain ⟨j, hj, rfl⟩ := List.getElem_of_mem (List.mem_of_find?_eq_some hq)
      rcases Nat.lt_trichotomy i j with hij | rfl | hij
      · have := List.pairwise_iff_getElem.1 h i j hi hj hij
        rw [ord_zero.2 h1] at this
        omega
      · rfl
      · have := List.pairwise_iff_getElem.1 h j i hj hi hij
        rw [ord_zero.2 (sameK_comm h1)] at this
        omega
  unfold tellsO
  rw [hf]
  simp
end Go.Proofs.YtafdfmdcnniccaaGreat.ofs

/- Layer 13, plain: a save under a fuse; what lasts behind a crash. -/
namespace Go.Proofs.YtafdfmdcnniccaaGreat.tp
open Go.ChangeShapes Go.WideShapes Go.ChangeAt Go.RowKit
open Go.Proofs.YtafdfmdcnniccaaGreat.dk Go.Proofs.YtafdfmdcnniccaaGreat.oc Go.Proofs.YtafdfmdcnniccaaGreat.rc

/-- A file's bytes last: they are its image, and no write of it waits; or there is none. -/
structure Still (D : DiskS) (n : ByteArray) (o : Option ByteArray) : Prop where
  now : (D.find n).map FileS.now = o
  image : ∀ f, D.find n = some f → f.image = f.now
  waits : ∀ f, D.find n = some f → ∀ x ∈ D.waits, x.blk ≠ f.blk
section
variable {D E : DiskS} {n : ByteArray} {o : Option ByteArray}
theorem Still.of (h : Still D n o) (hf : E.find n = D.find n) (hw : ∀ f, D.find n = some f → ∀ x ∈ E.waits, x ∈ D.waits ∨ x.blk ≠ f.blk) : Still E n o :=
  ⟨by rw [hf]; exact h.now, fun f h1 => h.image f (hf.symm.trans h1), fun f h1 x hx => (hw f (hf.symm.trans h1) x hx).elim (h.waits f (hf.symm.trans h1) x) id⟩
theorem Still.burn (h : Still D n o) : Still D.burn n o := h.of (burn_find n) (fun _ _ x hx => .inl (by rw [burn_files.2.1] at hx; exact hx))
theorem lays_none (b : Nat) : ∀ (K : List WaitS) (i : ByteArray), (∀ y ∈ K, y.blk ≠ b) → lays i b K = i
  | [], _, _ => rfl
  | y :: K, i, h => by
    unfold lays
    rw [List.foldl_cons, if_neg (h y (List.mem_cons_self ..))]
    exact lays_none b K i (fun z hz => h z (List.mem_cons_of_mem _ hz))
theorem crashed_find (keep : List Bool) (lack : Int) (n : ByteArray) : (D.crashed keep lack).find n = (D.find n).map fun f =>
    { f with image := lays f.image f.blk (keptTo keep lack.toNat D.waits (min keep.length D.waits.length)), now := lays f.image f.blk (keptTo keep lack.toNat D.waits (min keep.length D.waits.length)) } := by
  unfold DiskS.find DiskS.crashed DiskS.imaged
  simp only [List.map_map, List.find?_map, Function.comp_def]
theorem Still.crashed (h : Still D n o) (keep : List Bool) (lack : Int) : Still (D.crashed keep lack) n o := by
  have hf := crashed_find (D := D) keep lack n
  obtain ⟨h1, h2, h3⟩ := h
  cases hd : D.find n with
  | none =>
    rw [hd] at hf h1
    exact ⟨by rw [hf]; exact h1, fun f h => by rw [hf] at h; exact absurd h (by simp), fun f h => by rw [hf] at h; exact absurd h (by simp)⟩
  | some f =>
    have hl : lays f.image f.blk (keptTo keep lack.toNat D.waits (min keep.length D.waits.length)) = f.now := by
      rw [lays_none _ _ _ (fun y hy => by obtain ⟨x, hx, e, _⟩ := keptTo_mem hy; rw [e]; exact h3 f hd x hx)]
      exact h2 f hd
    rw [hd] at hf h1
    simp only [Option.map_some, hl] at hf
    refine ⟨by rw [hf]; exact h1, fun g hg => ?_, fun g hg x hx => by cases hx⟩
    rw [hf] at hg
    cases hg
    rfl
theorem Still.fuse (h : Still D n o) (k : Int) : Still (D.fuse k) n o := h.of rfl (fun _ _ x hx => .inl hx)
def allOf : Option ByteArray → ByteArray × Int
  | none => (⟨#[]⟩, 9)
  | some s => (s, 0)
theorem Still.all (h : Still D n o) (hd : D.down = false) : D.all n = allOf o := by
  unfold DiskS.all
  rw [if_neg (by rw [hd]; decide)]
  have h1 := h.now
  cases hf : D.find n with
  | none => rw [hf] at h1; subst h1; rfl
  | some f => rw [hf] at h1; subst h1; rfl
theorem doing_two (f : DiskS → DiskS) (hd : D.down = false) : D.doing f = (8, D.burn) ∨ (D.doing f = (0, f D.burn) ∧ D.burn.down = false) := by
  unfold DiskS.doing
  by_cases h : D.burns = true
  · exact .inl (if_pos h)
  · refine .inr ⟨if_neg h, ?_⟩
    unfold DiskS.burns at h
    have h0 : ¬ D.left = 0 := by simpa using h
    unfold DiskS.burn
    rw [if_neg h0]
    split <;> exact hd
variable {L : List FileS} {b : Nat} {i s : ByteArray}
theorem write_two (hd : E.down = false) (hL : ∀ f ∈ L, f.name ≠ n) (hE : E.files = L ++ [⟨n, b, ⟨#[]⟩, ⟨#[]⟩⟩]) (hs0 : 0 < s.size) (hroom : (s.size : Int) ≤ E.cap - E.size) :
    E.write n 0 s = (8, E.burn) ∨ ∃ E', E.write n 0 s = (0, E') ∧ E'.down = false ∧ E'.files = L ++ [⟨n, b, ⟨#[]⟩, s⟩] ∧ E'.waits = E.waits ++ [(⟨b, 0, s⟩ : WaitS)] := by
  unfold DiskS.write
  rw [if_neg (by rw [hd]; decide)]
  have hf : E.find n = some ⟨n, b, ⟨#[]⟩, ⟨#[]⟩⟩ := by unfold DiskS.find; rw [hE]; exact find_last hL _ rfl
  rw [hf]
  simp only
  have h0 : (⟨#[]⟩ : ByteArray).size = 0 := rfl
  rw [if_neg (by rw [h0]; omega), if_neg (by rw [h0]; omega)]
  rcases doing_two (D := E) (fun D => if s.size = 0 then D else { D.turn n (fun f => { f with now := laid f.now (0 : Int).toNat s }) with waits := D.waits ++ [(⟨b, (0 : Int).toNat, s⟩ : WaitS)] }) hd with h | ⟨h, hb⟩
  · exact .inl h
  · refine .inr ⟨_, h, ?_⟩
    rw [if_neg (by omega)]
    refine ⟨hb, ?_, ?_⟩
    · unfold DiskS.turn
      simp only [burn_files.1, hE, turn_last hL ⟨n, b, ⟨#[]⟩, ⟨#[]⟩⟩ rfl]
      rw [show Int.toNat 0 = 0 from rfl, laid_empty]
    · simp only [burn_files.2.1]
      rfl
theorem sync_two (hd : E.down = false) (hL : ∀ f ∈ L, f.name ≠ n) (hE : E.files = L ++ [⟨n, b, i, s⟩]) :
    E.sync [n] = (8, E.burn) ∨ ∃ E', E.sync [n] = (0, E') ∧ E'.down = false ∧ E'.files = L ++ [⟨n, b, s, s⟩] ∧ E'.waits = E.waits.filter (fun x => !decide (x.blk = b)) := by
  have hb : E.bars [n] = 0 := by
    rw [bars_one, if_neg (by rw [hd]; decide), if_pos ((has_iff _ n).2 ⟨⟨n, b, i, s⟩, by rw [hE]; simp, rfl⟩)]
  unfold DiskS.sync
  rw [if_neg (by rw [hb]; decide)]
  rcases doing_two (D := E) (fun D => List.foldl DiskS.last D [n]) hd with h | ⟨h, hb⟩
  · exact .inl h
  · refine .inr ⟨_, h, ?_⟩
    simp only [List.foldl_cons, List.foldl_nil]
    unfold DiskS.last DiskS.find
    simp only [burn_files.1, hE, find_last hL ⟨n, b, i, s⟩ rfl]
    unfold DiskS.turn DiskS.without
    simp only [burn_files.1, hE, turn_last hL ⟨n, b, i, s⟩ rfl, burn_files.2.1]
    exact ⟨hb, trivial, trivial⟩
theorem rename_two {nm : ByteArray} (hne : n ≠ nm) (hd : E.down = false) (hL : ∀ f ∈ L, f.name ≠ n) (hE : E.files = L ++ [⟨n, b, s, s⟩]) :
    E.rename n nm = (8, E.burn) ∨ ∃ E', E.rename n nm = (0, E') ∧ E'.down = false ∧ E'.files = (L.filter fun x => !decide (x.name = nm)) ++ [⟨nm, b, s, s⟩] ∧ ∀ x ∈ E'.waits, x ∈ E.waits := by
  have hfl : ∀ L : List FileS, (∀ f ∈ L, f.name ≠ n) → ((L ++ [(⟨n, b, s, s⟩ : FileS)]).filter fun x => !decide (x.name = n)) = L := fun L hL => by
    rw [List.filter_append, List.filter_eq_self.2 (fun f hf => by simpa using hL f hf)]
    simp
  have hf1 : ((L ++ [(⟨n, b, s, s⟩ : FileS)]).filter fun x => !decide (x.name = nm)) = (L.filter fun x => !decide (x.name = nm)) ++ [⟨n, b, s, s⟩] := by
    rw [List.filter_append]
    simp [hne]
  unfold DiskS.rename
  rw [if_neg (by rw [hd]; decide)]
  have hfd : E.find n = some ⟨n, b, s, s⟩ := by unfold DiskS.find; rw [hE]; exact find_last hL _ rfl
  rw [hfd]
  simp only
  rcases doing_two (D := E) (fun D => if n = nm then D else { D.drop nm with files := ((D.drop nm).files.filter fun x => !decide (x.name = n)) ++ [⟨nm, b, s, s⟩] }) hd with h | ⟨h, hb⟩
  · exact .inl h
  · refine .inr ⟨_, h, ?_⟩
    rw [if_neg hne]
    unfold DiskS.drop
    cases hfm : E.burn.find nm with
    | none =>
      have hnn : ∀ f ∈ L, f.name ≠ nm := fun f hf => find_none hfm f (by rw [burn_files.1, hE]; exact List.mem_append_left _ hf)
      have hfn : (L.filter fun x => !decide (x.name = nm)) = L := List.filter_eq_self.2 (fun f hf => by simpa using hnn f hf)
      refine ⟨hb, ?_, fun x hx => ?_⟩
      · simp only [burn_files.1, hE]
        rw [hfl _ hL, hfn]
      · simp only [burn_files.2.1] at hx; exact hx
    | some f =>
      refine ⟨hb, ?_, fun x hx => ?_⟩
      · simp only [DiskS.without, burn_files.1, hE]
        rw [hf1, hfl _ (fun f hf => hL f (List.mem_filter.1 hf).1)]
      · simp only [DiskS.without, burn_files.2.1, List.mem_filter] at hx; exact hx.1
theorem find_app_other {m : ByteArray} {x : FileS} (hE : E.files = D.files ++ [x]) (hx : x.name ≠ m) : E.find m = D.find m := by
  unfold DiskS.find
  rw [hE, List.find?_append]
  simp [hx]
/-- A save under a fuse: it is done, or nothing. -/
theorem save_fuse {nm : ByteArray} (hd : D.down = false) (hx : D.has (nm ++ freshN) = false) (hne : nm ++ freshN ≠ nm) (t : ByteArray) (hroom : ((t.size + 4 : Nat) : Int) ≤ D.cap - D.size) (b : Nat) (hS : Still D nm o) (hblk : ∀ f ∈ D.files, f.blk ≠ b) :
    ∃ c D', saveD D nm t b = (c, D') ∧ Still D' nm (if c = 0 then some (sealB t) else o) := by
  have hno := find_none_of hx
  have hsz : (sealB t).size = t.size + 4 := sealB_size t
  obtain ⟨nx, hnx⟩ : ∃ nx, nm ++ freshN = nx := ⟨_, rfl⟩
  have hc : clearD D nx = (0, D) := by unfold clearD; rw [← hnx, if_neg (by rw [hx]; decide)]
  unfold saveD
  rw [hnx] at hno hne hx ⊢
  rw [hc]
  simp only [ne_eq, not_true_eq_false, if_false]
  obtain ⟨s, hs⟩ : ∃ s, sealB t = s := ⟨_, rfl⟩
  rw [hs] at hsz ⊢
  have end8 : ∀ E' : DiskS, Still E' nm o → laidD D nx s b = (8, E') → ∃ c D', endD (laidD D nx s b) nx nm = (c, D') ∧ Still D' nm (if c = 0 then some s else o) := fun E' hE' hl => by
    rw [hl]
    unfold endD
    simp only [ne_eq, show ¬ ((8 : Int) = 0) by decide, not_false_eq_true, if_true, not_true_eq_false, if_false]
    exact ⟨_, _, rfl, by simpa using hE'⟩
  have hcr : D.create nx b = D.doing fun D => { D with files := D.files ++ [⟨nx, b, ⟨#[]⟩, ⟨#[]⟩⟩] } := by
    unfold DiskS.create; rw [if_neg (by rw [hd]; decide), if_neg (by rw [hx]; decide)]
  rcases doing_two (D := D) (fun D => { D with files := D.files ++ [⟨nx, b, ⟨#[]⟩, ⟨#[]⟩⟩] }) hd with h | ⟨h, hb⟩
  · refine end8 D.burn hS.burn ?_
    unfold laidD
    rw [hcr, h]
    rfl
  · obtain ⟨E1, hE1⟩ : ∃ E1 : DiskS, { D.burn with files := D.burn.files ++ [⟨nx, b, ⟨#[]⟩, ⟨#[]⟩⟩] } = E1 := ⟨_, rfl⟩
    have d1 : E1.down = false := by subst hE1; exact hb
    have f1 : E1.files = D.files ++ [⟨nx, b, ⟨#[]⟩, ⟨#[]⟩⟩] := by subst hE1; simp only [burn_files.1]
    have w1 : E1.waits = D.waits := by subst hE1; exact burn_files.2.1
    have c1 : E1.cap = D.cap := by subst hE1; exact burn_files.2.2
    have z1 : E1.size = D.size := by unfold DiskS.size; rw [f1, total_append]; rfl
    have S1 : Still E1 nm o := hS.of (find_app_other f1 hne) (fun f hf x hx => .inl (by rw [w1] at hx; exact hx))
    have cr1 : D.create nx b = (0, E1) := by rw [hcr, h, hE1]
    rcases write_two (E := E1) (s := s) d1 hno f1 (by omega) (by rw [c1, z1, hsz]; exact hroom) with h2 | ⟨E2, h2, d2, f2, w2⟩
    · refine end8 E1.burn S1.burn ?_
      unfold laidD
      rw [cr1]
      simp only [ne_eq, not_true_eq_false, if_false]
      rw [h2]
      rfl
    · have S2 : Still E2 nm o := hS.of (find_app_other f2 hne) (fun f hf x hx => by
        rw [w2, w1] at hx
        rcases List.mem_append.1 hx with hx | hx
        · exact .inl hx
        · rw [List.mem_singleton] at hx; subst hx
          exact .inr (fun e => hblk f (find_some hf).1 e.symm))
      have wr2 : (D.create nx b).2.write nx 0 s = (0, E2) := by rw [cr1]; exact h2
      have hl2 : laidD D nx s b = E2.sync [nx] := by
        unfold laidD
        rw [wr2, cr1]
        simp only [ne_eq, not_true_eq_false, if_false]
      rcases sync_two (E := E2) d2 hno f2 with h3 | ⟨E3, h3, d3, f3, w3⟩
      · exact end8 E2.burn S2.burn (hl2.trans h3)
      · rw [hl2, h3]
        unfold endD
        simp only [ne_eq, not_true_eq_false, if_false]
        have S3 : Still E3 nm o := hS.of (find_app_other f3 hne) (fun f hf x hx => by
          rw [w3, w2, w1] at hx
          rcases List.mem_append.1 (List.mem_filter.1 hx).1 with hx | hx
          · exact .inl hx
          · rw [List.mem_singleton] at hx; subst hx
            exact .inr (fun e => hblk f (find_some hf).1 e.symm))
        rcases rename_two (E := E3) hne d3 hno f3 with h4 | ⟨E4, h4, d4, f4, w4⟩
        · rw [h4]
          exact ⟨_, _, rfl, by simpa using S3.burn⟩
        · rw [h4]
          refine ⟨_, _, rfl, ?_⟩
          rw [if_pos rfl]
          have hf4 : E4.find nm = some ⟨nm, b, s, s⟩ := by
            unfold DiskS.find
            rw [f4]
            exact find_last (fun f hf => by simpa using (List.mem_filter.1 hf).2) _ rfl
          refine ⟨by rw [hf4]; rfl, fun f hf => by rw [hf4] at hf; cases hf; rfl, fun f hf x hx => ?_⟩
          rw [hf4] at hf
          cases hf
          have := w4 x hx
          rw [w3] at this
          simpa using (List.mem_filter.1 this).2
end
end Go.Proofs.YtafdfmdcnniccaaGreat.tp

/- Layer 14's laws: what stands. -/
namespace Go.Proofs.YtafdfmdcnniccaaGreat.ofs
open Go.ChangeShapes Go.WideShapes Go.ChangeAt Go.RowKit
open Go.Proofs.YtafdfmdcnniccaaGreat.dk Go.Proofs.YtafdfmdcnniccaaGreat.nm Go.Proofs.YtafdfmdcnniccaaGreat.tp Go.Proofs.YtafdfmdcnniccaaGreat.oc Go.Proofs.YtafdfmdcnniccaaGreat.rc

theorem seal_back (s : ByteArray) : openSeal (sealB s) = some s := by
  have h := seal_open s.data.toList
  have e : (⟨s.data.toList.toArray⟩ : ByteArray) = s := ba_ext rfl
  rw [e] at h
  exact h
/-- Offsets over a disk, both the law's own. -/
structure OfS (W : World) (k p o : Nat) (D : DiskS) (l : List OffS) (w : World) (F : Nat → Prop) (v : Value) : Prop where
  disk : DiskOk w p D F k
  ofs : Ofs W.heap.size w o p v l
  owns : Owns W w F
  oW : W.heap.size ≤ o
section
variable {W w w' : World} {k p o : Nat} {D : DiskS} {l : List OffS} {F : Nat → Prop} {v : Value}
theorem OfS.calm (h : OfS W k p o D l w F v) (hc : Calm w w') : OfS W k p o D l w' F v := ⟨h.disk.calm hc, h.ofs.calm hc, h.owns.calm' hc, h.oW⟩
theorem OfS.good (h : OfS W k p o D l w F v) : GoodL l := ⟨h.ofs.few, h.ofs.rising, h.ofs.ok⟩
theorem setL_good {l : List OffS} (h : GoodL l) (x : OffS) : GoodL (setL l x) := by
  unfold setL
  split
  · rename_i hc
    have hr : rightO x = 0 := by
      unfold setC at hc
      split at hc
      · rename_i h1; exact absurd hc h1
      · rename_i h1; simpa using h1
    refine ⟨?_, h.rising.set x, fun y hy => ?_⟩
    · have h1 := set_length l x h.rising
      have h2 := h.few
      unfold setC at hc
      split at hc
      · rename_i h3; exact absurd hc h3
      · split at hc
        · rename_i h3
          rw [if_neg (by intro e; rw [e] at h3; cases h3)] at h1
          omega
        · split at hc
          · cases hc
          · split at h1 <;> omega
    · rcases setO_mem hy with rfl | hy
      · exact hr
      · exact h.ok y hy
  · exact h
theorem OfS.set (h : OfS W k p o D l w F v) (x : OffS) :
    Calls Tryz.prog 9 #[ptrTo o, .agg (offA x)] w fun e w' => e = .returned (.int .i64 (setC l x)) ∧ (∃ v', OfS W k p o D (setL l x) w' F v') ∧ ∀ g, g < w.heap.size → g ≠ o → v.ownBlock ≠ some g → w'.heap[g]? = w.heap[g]? := by
  refine (Set_any W.heap.size o p v l x w h.ofs h.owns.calm.size).mono ?_
  rintro e w' ⟨v', rfl, hO, hk, hg⟩
  have hcw : Calm W w' := Below.trans h.owns.calm (hk.below h.owns.calm.size (fun b hb => hb.elim (fun e => e ▸ h.oW) (fun e => (h.ofs.row.lt b e).1)))
  exact ⟨rfl, ⟨v', h.disk.keep hk (fun b hb hx => hx.elim (fun e => ofs_apart h.disk h.ofs.at_ (e ▸ hb)) (fun e => off_apart h.disk h.ofs.row e hb)), hO, ⟨hcw, h.owns.foot⟩, h.oW⟩,
    fun g hlt h1 h2 => hk.block g hlt (fun hx => hx.elim h1 h2)⟩
theorem OfS.flush (h : OfS W k p o D l w F v) (hk : k ≤ 1000) (hf : ∀ f ∈ D.files, f.name.size ≤ maxLen) (hl : D.files.length ≤ 1000000) :
    Calls Tryz.prog 11 #[ptrTo o] w fun e w' => ∃ b F', (∀ f ∈ D.files, f.blk ≠ b) ∧ e = .returned (.int .i64 (saveD D groupsN (putB l) b).1) ∧ OfS W (k + 1) p o (saveD D groupsN (putB l) b).2 l w' F' v ∧ Step F w F' w' := by
  refine (Flush_any w h.disk h.ofs (by omega) hf hl).mono ?_
  rintro e w' ⟨b, hb, rfl, F', hd, hs⟩
  refine ⟨b, F', fun f hf e => ?_, rfl, ⟨hd, h.ofs.step h.disk hs, h.owns.step hs, h.oW⟩, hs⟩
  have : F f.blk := by obtain ⟨mb, wv, h1, rfl⟩ := h.disk.lies; exact .inr (.inr (.inr (List.mem_map.2 ⟨f, hf, rfl⟩)))
  have := h.disk.foot_lt _ this
  omega
theorem Held.open {D : DiskS} {l : List OffS} (hg : GoodL l) (hS : Still D groupsN (some (sealB (putB l)))) (hd : D.down = false) : openO D = (0, some l) ∧ (D.all groupsN).1.size ≤ 1000000 ∧ (loadD D groupsN).1.size ≤ 1000000 := by
  have hall : D.all groupsN = (sealB (putB l), 0) := hS.all hd
  have hload : loadD D groupsN = (putB l, true, 0) := by
    unfold loadD
    rw [hall]
    simp only [seal_back]
    rfl
  have hz := putB_le hg
  refine ⟨?_, ?_, ?_⟩
  · unfold openO
    rw [hload]
    have := getO2_put l hg
    unfold putB
    simp only [this]
    rfl
  · rw [hall]; simp only [sealB_size]; omega
  · rw [hload]; simp only; omega
theorem new_open (c : Int) : openO (dk.new c) = (0, some []) := rfl
theorem groups_ne : groupsN ++ freshN ≠ groupsN := fun e => by
  have := congrArg ByteArray.size e
  rw [ByteArray.size_append] at this
  have : freshN.size = 4 := rfl
  omega
/-- The first flush, onto a new disk. -/
theorem flush_new (c : Int) (hc : 2300 ≤ c ∨ (c = 1000 ∧ l.length ≤ 5)) (hc2 : c ≤ 16777216) (h : GoodL l) (b : Nat) : ∃ D', saveD (dk.new c) groupsN (putB l) b = (0, D') ∧ D'.files = [⟨groupsN, b, sealB (putB l), sealB (putB l)⟩] ∧ D'.waits = [] ∧ D'.down = false ∧ Still D' groupsN (some (sealB (putB l))) := by
  have hz : ((putB l).size : Int) + 4 ≤ c := by
    rcases hc with hc | ⟨rfl, h5⟩
    · have := putB_le h
      omega
    · have h1 := flat_le l h.ok
      have : (putB l).size = (putL l).length := by rw [← size_toList]; rfl
      rw [this]
      unfold putL
      rw [List.length_append, low_length]
      omega
  have hcap : (dk.new c).cap = c := by show min (max c 0) 16777216 = c; omega
  have hsz : (dk.new c).size = 0 := rfl
  obtain ⟨W', h1, h2⟩ := save_ok (new_alive c) (nm := groupsN) rfl groups_ne (putB l) (by rw [hcap, hsz]; push_cast; omega) b
  have hw : W' = [] := List.eq_nil_iff_forall_not_mem.2 fun x hx => by
    have := (h2 x hx).1
    cases this
  subst hw
  refine ⟨_, h1, rfl, rfl, rfl, rfl, fun f hf => ?_, fun f hf x hx => by cases hx⟩
  have hfd : DiskS.find { dk.new c with files := ((dk.new c).files.filter fun x => !decide (x.name = groupsN)) ++ [⟨groupsN, b, sealB (putB l), sealB (putB l)⟩], waits := [] } groupsN = some ⟨groupsN, b, sealB (putB l), sealB (putB l)⟩ := rfl
  rw [hfd] at hf
  cases hf
  rfl
end
end Go.Proofs.YtafdfmdcnniccaaGreat.ofs

/- Layer 14's laws: the example. -/
namespace Go.Proofs.YtafdfmdcnniccaaGreat.ofs
open Go.ChangeShapes Go.WideShapes Go.ChangeAt Go.RowKit
open Go.Proofs.YtafdfmdcnniccaaGreat.dk Go.Proofs.YtafdfmdcnniccaaGreat.nm Go.Proofs.YtafdfmdcnniccaaGreat.tp Go.Proofs.YtafdfmdcnniccaaGreat.oc Go.Proofs.YtafdfmdcnniccaaGreat.rc

abbrev gN : ByteArray := ⟨#[103]⟩
abbrev aN : ByteArray := ⟨#[97]⟩
abbrev x5 : OffS := ⟨gN, aN, 0, 5⟩
abbrev x7 : OffS := ⟨gN, aN, 0, 7⟩
theorem x5_right : rightO x5 = 0 := by decide
theorem x7_right : rightO x7 = 0 := by decide
theorem x5_set : setC [] x5 = 0 := by unfold setC; rw [x5_right]; rfl
theorem x5_list : setL [] x5 = [x5] := by unfold setL; rw [x5_set]; rfl
theorem x57 : ordO x5 x7 = 0 := ord_zero.2 (sameK_iff.2 ⟨rfl, rfl, rfl⟩)
theorem x7_set : setC [x5] x7 = 0 := by
  unfold setC
  rw [x7_right]
  have : (findO [x5] x7).isSome = true := by decide
  rw [this]
  rfl
theorem x7_list : setL [x5] x7 = [x7] := by
  unfold setL
  rw [x7_set, if_pos rfl]
  unfold setO
  rw [x57]
  rfl
theorem get5 : getO [x5] ⟨gN, aN, 0, 0⟩ = 5 := by decide
theorem get7 : getO [x7] ⟨gN, aN, 0, 0⟩ = 7 := by decide
theorem bools_nil (w : World) : BoolsAt w none [] := fun k hk => by cases hk
set_option maxRecDepth 100000 in
set_option maxHeartbeats 8000000 in
theorem awake_any (W : World) : Calls Tryz.prog 6 #[] W fun e W' => e = .returned (.bool true) ∧ Calm W W' := by
  go_enter Tryz.func6, Tryz.ntmps6
  go_wp2_with fail
  refine (New_ok _ 1000).mono ?_
  rintro e w1 ⟨p, F, rfl, h1, hc1, hF1⟩
  have O1 := box ((Owns.refl W).new hc1 hF1)
  have H1 := box h1
  clear h1 hc1 hF1
  go_wp2_with fail
  refine (Open_of w1 H1.out (by decide) (by decide)).mono ?_
  rw [new_open]
  rintro e w2 ⟨hc2, o, v, rfl, hO, ho⟩
  have HS := box (show OfS W 0 p o (dk.new 1000) [] w2 F v from ⟨H1.out.calm hc2, ⟨hO.at_, row_base (row_zero hO.row) (fun g hg => Nat.le_trans O1.out.calm.size (hO.row.lt g hg).1), hO.few, hO.rising, hO.ok⟩, O1.out.calm' hc2, Nat.le_trans O1.out.calm.size ho⟩)
  clear hc2 hO ho O1 H1
  have hs1 := HS.out.set x5
  rw [x5_set, x5_list] at hs1
  have Hs1 := box (show Calls Tryz.prog _ #[ptrTo o, .agg #[.string gN, .string aN, .int .i64 0, .int .i64 5]] w2 _ from hs1)
  clear hs1
  go_wp2_with fail
  refine Hs1.out.mono ?_
  rintro e w3 ⟨rfl, ⟨v3, h3⟩, _⟩
  have H3 := box h3
  clear h3 Hs1 HS
  go_wp2_with fail
  refine (H3.out.flush (by decide) (fun f hf => by cases hf) (Nat.zero_le _)).mono ?_
  rintro e w4 ⟨b, F4, _, rfl, h4, _⟩
  obtain ⟨D4, hD4, hf4, hw4, hd4, hS4⟩ := flush_new 1000 (.inr ⟨rfl, by decide⟩) (by decide) H3.out.good b
  rw [hD4] at h4 ⊢
  have H4 := box h4
  have HD4 := box (And.intro hd4 hS4)
  clear h4 hD4 hf4 hw4 hd4 hS4
  have hs1 := H4.out.set x7
  rw [x7_set, x7_list] at hs1
  have Hs1 := box (show Calls Tryz.prog _ #[ptrTo o, .agg #[.string gN, .string aN, .int .i64 0, .int .i64 7]] w4 _ from hs1)
  clear hs1
  go_wp2_with fail
  refine Hs1.out.mono ?_
  rintro e w5 ⟨rfl, ⟨v5, h5⟩, _⟩
  have H5 := box h5
  clear h5 Hs1
  go_wp2_with fail
  refine (Crash_ok none 0 [] 0 w5 H5.out.disk (by decide) (bools_nil _) (fun a m c e => by cases e) (Nat.le_refl _) (by decide)).mono ?_
  rintro e w6 ⟨rfl, F6, h6, hs6⟩
  have H6 := box (show OfS W 0 p o (D4.crashed [] 0) [x7] w6 F6 v5 from ⟨h6, H5.out.ofs.step H5.out.disk hs6, H5.out.owns.step hs6, H5.out.oW⟩)
  obtain ⟨ho1, ho2, ho3⟩ := Held.open (H3.out.good) (HD4.out.2.crashed [] 0) rfl
  have hopen := Open_of w6 H6.out.disk ho2 ho3
  rw [ho1] at hopen
  have Hopen := box hopen
  clear h6 hs6 ho1 ho2 ho3 hopen
  go_wp2_with fail
  refine Hopen.out.mono ?_
  rintro e w7 ⟨hc7, hx⟩
  simp only at hx
  obtain ⟨q, vq, rfl, hq, hqW⟩ := hx
  have HQ := box hq
  have H7 := box (H6.out.calm hc7)
  clear hc7 hq hqW Hopen
  have hg5 := Get_any gN aN 0 w7 HQ.out
  rw [get5] at hg5
  have Hg5 := box hg5
  clear hg5
  go_wp2_with fail
  refine Hg5.out.mono ?_
  rintro e w8 ⟨rfl, hc8⟩
  have HC8 := box hc8
  have hg7 := Get_any gN aN 0 w8 (H7.out.ofs.calm hc8)
  rw [get7] at hg7
  have Hg7 := box hg7
  clear hg7 hc8 Hg5
  go_wp2_with fail
  refine Hg7.out.mono ?_
  rintro e w9 ⟨rfl, hc9⟩
  have HC9 := box (HC8.out.trans hc9)
  clear hc9
  go_wp2_with fail
  go_ret
  exact ⟨ret_bool (by simp), H7.out.owns.calm.trans HC9.out⟩
end Go.Proofs.YtafdfmdcnniccaaGreat.ofs
