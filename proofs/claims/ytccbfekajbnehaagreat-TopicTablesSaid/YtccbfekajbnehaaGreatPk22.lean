/- Layer 13: Contains over names; a text is laid, saved, loaded: as what the disk does. -/
import Derived.Test.YtccbfekajbnehaaGreatRows
import Derived.WalkKit
import Derived.ProofKit
import Derived.OpenShut
import Derived.Handy
import Derived.Deep.LoopGhost
import Derived.Lib.Hide
import Derived.Lib.Strings
import Derived.SizedLaws
import Derived.Maps.Own
import Derived.Maps.OwnOps
import Derived.Maps.OwnSet
import Derived.Maps.RangeWalk
import Derived.Deep.QuietTactic
import Derived.BigQuiet
import Derived.Deep.RegionHeld3
import Derived.Lib.ConvBytes
import Derived.Lib.AppendZeros
import Derived.Lib.AppendZerosOnto
import Derived.Lib.LazyBuf
import Derived.Shelf.Abstract
import Derived.LaidEql
import Derived.Lib.SliceRun
import Derived.StillTailTactics
import Derived.Deep.Slices
import Derived.Shelf.Strings.Builder1
import Derived.Shelf.Small.Bits
import Derived.Shelf.Small.Wraps
import Derived.Shelf.Strings.BuilderF
import Derived.Shelf.Strings.BuilderK
import Derived.Shelf.Strconv.Itoa0
import Derived.Shelf.Sort.Plain
import Derived.Shelf.GgClosure.StringsIndexFunc
import Derived.Ground.GgwProg
import Derived.Shelf.GgClosure.StringsIndexFuncTop
import Derived.Shelf.GgClosure.StringsRunes
import Derived.Shelf.Strings.Prefix
import Derived.Shelf.Strings.BuilderCap
import Derived.Shelf.Slices.In.SortNone
import Derived.Ground.SlgfProg
import Derived.Shelf.SlicesE.IndexFunc
import Derived.Shelf.SlicesE.DeleteFunc
import Derived.Test.YtccbfekajbnehaaGreatProg
import Derived.Lib.DecodeN
import Derived.Shelf.SlicesQ.IndexFunc
import Derived.Shelf.SlicesE.Clone
import Derived.Ground.SlgnProg
import Derived.Laws.MakeOwn
import Derived.Lib.Builder
import Derived.Lib.AppendStr
import Derived.Laws.Rows
import Derived.Shelf.SlIter.Nil
import Derived.Ground.GgzProg
import Derived.Shelf.SortM.Plain
import Derived.Shelf.SortM.SortNone
import Derived.Ground.SlgmProg
import Derived.Laws.BitsLemmas
import Derived.Laws.ResultCell
import Derived.Laws.StructEq
import Derived.Laws.Cover3
import Derived.OwnWalk
import Derived.Test.YtccbfekajbnehaaGreatPk21
namespace Go.Proofs.YtccbfekajbnehaaGreat.tp
open Go.ChangeShapes Go.WideShapes Go.ChangeAt Go.RowKit
open Go.Proofs.YtccbfekajbnehaaGreat.oc Go.Proofs.YtccbfekajbnehaaGreat.dk Go.Proofs.YtccbfekajbnehaaGreat.cr Go.Proofs.YtccbfekajbnehaaGreat.rc

def idxS (l : List ByteArray) (s : ByteArray) : Int := match l.findIdx? (fun x => decide (x = s)) with | some k => k | none => -1
theorem idxS_mem (l : List ByteArray) (s : ByteArray) : decide (0 ≤ idxS l s) = l.any fun x => decide (x = s) := by
  unfold idxS
  cases h : l.findIdx? (fun x => decide (x = s)) with
  | none =>
    rw [List.findIdx?_eq_none_iff] at h
    have : (l.any fun x => decide (x = s)) = false := List.any_eq_false.2 (fun x hx => by rw [h x hx]; exact Bool.false_ne_true)
    rw [this]; rfl
  | some k =>
    rw [List.findIdx?_eq_some_iff_getElem] at h
    obtain ⟨hk, h1, _⟩ := h
    have : (l.any fun x => decide (x = s)) = true := List.any_eq_true.2 ⟨l[k], List.getElem_mem _, h1⟩
    rw [this]; exact decide_eq_true (Int.natCast_nonneg k)
theorem idxS_snoc (l : List ByteArray) (s : ByteArray) (k : Nat) (hk : k < l.length) (h : (l.take k).findIdx? (fun x => decide (x = s)) = none) :
    (l[k] = s → idxS l s = k) ∧ (l[k] ≠ s → (l.take (k + 1)).findIdx? (fun x => decide (x = s)) = none) := by
  rw [List.findIdx?_eq_none_iff] at h
  constructor
  · intro he
    have : l.findIdx? (fun x => decide (x = s)) = some k := by
      rw [List.findIdx?_eq_some_iff_getElem]
      refine ⟨hk, decide_eq_true he, fun j hj => ?_⟩
      have := h l[j] (by rw [List.mem_take_iff_getElem]; exact ⟨j, by omega, rfl⟩)
      rw [this]; exact Bool.false_ne_true
    unfold idxS; rw [this]
  · intro he
    rw [List.findIdx?_eq_none_iff, List.take_succ_eq_append_getElem hk]
    intro x hx
    rcases List.mem_append.1 hx with hx | hx
    · exact h x hx
    · rw [List.mem_singleton] at hx; subst hx; exact decide_eq_false he
set_option maxRecDepth 100000 in
set_option maxHeartbeats 2000000 in
theorem IndexS_any (v : Value) (l : List ByteArray) (s : ByteArray) (w : World) (h : StrsAt w v l) (hl : l.length ≤ 4294967296) :
    Calls Tryz.prog 51 #[v, .string s] w fun e w' => e = .returned (.int .i64 (idxS l s)) ∧ Calm w w' := by
  obtain ⟨a, cap, rfl, hc⟩ := h.uni
  have H := box hc
  clear h hc
  go_enter Tryz.func51, Tryz.ntmps51
  go_wp2_with fail
  go_loopw [8] (fun i wr => ∃ k : Nat, k ≤ l.length ∧ i = .int .i64 k ∧ Box ((l.take k).findIdx? (fun x => decide (x = s)) = none) ∧ Calm w wr) (fun i _ => l.length - (intOf i).toNat)
  case atStart => exact ⟨0, Nat.zero_le _, rfl, box rfl, .refl _⟩
  case round =>
    obtain ⟨k, hk, rfl, Hno, hcw⟩ := hrel
    have HC := box hcw
    clear hcw
    by_cases hlt : k < l.length
    · obtain ⟨b, off, rfl, hb, hcell⟩ := H.out k hlt
      rw [show l.getD k ByteArray.empty = l[k] by rw [List.getD_eq_getElem?_getD, List.getElem?_eq_getElem hlt]; rfl] at hcell
      have hcell' := (HC.out.cell (p := ⟨b, off + k, none⟩) hb).trans hcell
      have hb' := Nat.lt_of_lt_of_le hb HC.out.size
      have hsn := box (idxS_snoc l s k hlt)
      obtain ⟨x, hx⟩ : ∃ x, l[k] = x := ⟨_, rfl⟩
      rw [hx] at hcell' hsn
      clear hx hcell
      by_cases he : x = s
      · subst he
        have hn := box ((hsn.out Hno.out).1 rfl)
        go_wp2_with (first | go_quiet (fail) | fail)
        go_ret
        exact ⟨ret_int (by rw [hn.out]), HC.out⟩
      · have hb1 : (s.toList == x.toList) = false := beq_eq_false_iff_ne.2 (fun e => he (ba_ext (by rw [← Lib.toList_data, ← Lib.toList_data]; exact e.symm)))
        have hn := box ((hsn.out Hno.out).2 he)
        go_wp2_with (first | go_quiet (fail) | fail)
        go_roundw
        case rel => exact ⟨k + 1, by omega, by go_num, hn, HC.out⟩
        case measure => simp [intOf]; omega
    · obtain rfl : k = l.length := by omega
      have hn := box (show idxS l s = -1 by have := Hno.out; rw [List.take_length] at this; unfold idxS; rw [this])
      go_wp2_with fail
      go_ret
      exact ⟨ret_int (by rw [hn.out]), HC.out⟩
theorem ContainsS_any (v : Value) (l : List ByteArray) (s : ByteArray) (w : World) (h : StrsAt w v l) (hl : l.length ≤ 4294967296) :
    Calls Tryz.prog 24 #[v, .string s] w fun e w' => e = .returned (.bool (l.any fun x => decide (x = s))) ∧ Calm w w' := by
  have hi := box (IndexS_any v l s w h hl)
  have hb := box (idxS_mem l s)
  obtain ⟨a, cap, rfl, _⟩ := h.uni
  clear h
  go_enter Tryz.func24, Tryz.ntmps24
  go_wp2_with fail
  refine hi.out.mono ?_
  rintro e w' ⟨rfl, hc⟩
  have HC := box hc
  clear hc
  go_wp2_with fail
  go_ret
  exact ⟨ret_bool hb.out, HC.out⟩

/-- A text is laid into a new file. -/
def laidD (D : DiskS) (n s : ByteArray) (b : Nat) : Int × DiskS :=
  if (D.create n b).1 ≠ 0 then D.create n b else
  if ((D.create n b).2.write n 0 s).1 ≠ 0 then (D.create n b).2.write n 0 s else
  ((D.create n b).2.write n 0 s).2.sync [n]
section
variable {p n : Nat} {D : DiskS} {F : Nat → Prop}
theorem one_strs (w : World) (s : ByteArray) : StrsAt (w.alloc (.cells #[.string s] 9)) (.slice (some ⟨w.heap.size, 0, none⟩) 1 1) [s] := StrsAt.one (by rw [cell_of (heap_new w _)]; rfl)
theorem one_apart {w : World} (h : DiskOk w p D F n) : Apart (.slice (some ⟨w.heap.size, 0, none⟩) 1 1) F := fun a m c e hm hf => by
  cases e
  exact absurd (h.foot_lt _ hf) (Nat.lt_irrefl _)
/-- Sync, and Delete, of one file, its name in a list of its own. -/
theorem Sync_one (s : ByteArray) (w : World) (h : DiskOk w p D F n) (hn : n ≤ 1000000) :
    Calls Tryz.prog 53 #[ptrTo p, .slice (some ⟨w.heap.size, 0, none⟩) 1 1] (w.alloc (.cells #[.string s] 9)) (OkDone (D.sync [s]) p F n w) :=
  (Sync_ok _ [s] _ (h.calm ((Calm.refl w).alloc _)) hn (one_strs w s) (one_apart h) (Nat.le_of_ble_eq_true rfl)).mono fun _ _ ⟨he, F', hd, hs⟩ => ⟨he, F', hd, Step.calm_left ((Calm.refl w).alloc _) hs⟩
theorem Delete_one (s : ByteArray) (w : World) (h : DiskOk w p D F n) (hn : n ≤ 1000000) :
    Calls Tryz.prog 25 #[ptrTo p, .slice (some ⟨w.heap.size, 0, none⟩) 1 1] (w.alloc (.cells #[.string s] 9)) (OkDone (D.delete [s]) p F n w) :=
  (Delete_ok _ [s] _ (h.calm ((Calm.refl w).alloc _)) hn (one_strs w s) (one_apart h) (Nat.le_of_ble_eq_true rfl)).mono fun _ _ ⟨he, F', hd, hs⟩ => ⟨he, F', hd, Step.calm_left ((Calm.refl w).alloc _) hs⟩
set_option maxRecDepth 100000 in
set_option maxHeartbeats 4000000 in
theorem laid_any (nm s : ByteArray) (w : World) (h : DiskOk w p D F n) (hn : n ≤ 999990) (hs : s.size ≤ 1000000000) :
    Calls Tryz.prog 26 #[ptrTo p, .string nm, .string s] w fun e w' => ∃ b, w.heap.size ≤ b ∧ OkDone (laidD D nm s b) p F (n + 1) w e w' := by
  have hcr := box (Create_ok nm w h)
  clear h
  go_enter Tryz.func26, Tryz.ntmps26
  go_wp2_with fail
  refine hcr.out.mono ?_
  rintro e w1 ⟨b, hb, rfl, F1, h1, hs1⟩
  have Hb := box hb
  have H1 := box h1
  have Hs1 := box hs1
  clear hb h1 hs1 hcr
  obtain ⟨r1, hr1⟩ : ∃ r, D.create nm b = r := ⟨_, rfl⟩
  rw [hr1] at H1 ⊢
  obtain ⟨c1, D1⟩ := r1
  by_cases hc1 : c1 = 0
  · subst hc1
    have hw := box (Write_ok nm s 0 w1 H1.out (by omega) hs)
    go_wp2_with fail
    refine hw.out.mono ?_
    rintro e w2 ⟨rfl, F2, h2, hs2⟩
    have H2 := box h2
    have Hs2 := box (Hs1.out.trans hs2)
    clear h2 hs2 hw
    obtain ⟨r2, hr2⟩ : ∃ r, D1.write nm 0 s = r := ⟨_, rfl⟩
    have Hr1 := box hr1
    have Hr2 := box hr2
    rw [hr2] at H2 ⊢
    clear hr1 hr2
    obtain ⟨c2, D2⟩ := r2
    by_cases hc2 : c2 = 0
    · subst hc2
      have hy := box (Sync_one nm w2 H2.out (by omega))
      go_wp2_with fail
      refine hy.out.mono ?_
      rintro e w3 ⟨rfl, F3, h3, hs3⟩
      have H3 := box h3
      have Hs3 := box (Hs2.out.trans hs3)
      clear h3 hs3 hy
      go_wp2_with fail
      go_ret
      have hr := show laidD D nm s b = D2.sync [nm] by unfold laidD; rw [Hr1.out]; simp only [ne_eq, not_true_eq_false, if_false]; rw [Hr2.out]; simp
      exact ⟨b, Hb.out, ret_int (by rw [hr]), F3, by rw [hr]; exact H3.out, Hs3.out⟩
    · have hne : (c2 == 0) = false := beq_eq_false_iff_ne.2 hc2
      have hne2 : (c2 != 0) = true := by simp [bne, hne]
      go_wp2_with fail
      go_ret
      have hr := show laidD D nm s b = (c2, D2) by unfold laidD; rw [Hr1.out]; simp only [ne_eq, not_true_eq_false, if_false]; rw [Hr2.out]; simp [hc2]
      exact ⟨b, Hb.out, ret_int (by rw [hr]), F2, by rw [hr]; exact H2.out, Hs2.out⟩
  · have hne : (c1 == 0) = false := beq_eq_false_iff_ne.2 hc1
    have hne2 : (c1 != 0) = true := by simp [bne, hne]
    have Hr1 := box hr1
    clear hr1
    go_wp2_with fail
    go_ret
    have hr := show laidD D nm s b = (c1, D1) by unfold laidD; rw [Hr1.out]; simp [hc1]
    exact ⟨b, Hb.out, ret_int (by rw [hr]), F1, by rw [hr]; exact H1.out.mono (by omega), Hs1.out⟩
end
end Go.Proofs.YtccbfekajbnehaaGreat.tp
