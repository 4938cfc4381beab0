/- The contracts of package name and of reveilleref03. Strings are of at most 2^62 bytes where a bound is wanted. -/
import Derived.Test.YtccbfekajbnehaaGreatRows
import Derived.WalkKit
import Derived.ProofKit
import Derived.OpenShut
import Derived.Handy
import Derived.Deep.LoopGhost
import Derived.Lib.Hide
import Derived.Lib.Strings
import Derived.SizedLaws
import Derived.Maps.Own
import Derived.Maps.OwnOps
import Derived.Maps.OwnSet
import Derived.Maps.RangeWalk
import Derived.Deep.QuietTactic
import Derived.BigQuiet
import Derived.Deep.RegionHeld3
import Derived.Lib.ConvBytes
import Derived.Lib.AppendZeros
import Derived.Lib.AppendZerosOnto
import Derived.Lib.LazyBuf
import Derived.Shelf.Abstract
import Derived.LaidEql
import Derived.Lib.SliceRun
import Derived.StillTailTactics
import Derived.Deep.Slices
import Derived.Shelf.Strings.Builder1
import Derived.Shelf.Small.Bits
import Derived.Shelf.Small.Wraps
import Derived.Shelf.Strings.BuilderF
import Derived.Shelf.Strings.BuilderK
import Derived.Shelf.Strconv.Itoa0
import Derived.Shelf.Sort.Plain
import Derived.Shelf.GgClosure.StringsIndexFunc
import Derived.Ground.GgwProg
import Derived.Shelf.GgClosure.StringsIndexFuncTop
import Derived.Shelf.GgClosure.StringsRunes
import Derived.Shelf.Strings.Prefix
import Derived.Shelf.Strings.BuilderCap
import Derived.Shelf.Slices.In.SortNone
import Derived.Ground.SlgfProg
import Derived.Shelf.SlicesE.IndexFunc
import Derived.Shelf.SlicesE.DeleteFunc
import Derived.Test.YtccbfekajbnehaaGreatProg
import Derived.Lib.DecodeN
import Derived.Test.YtccbfekajbnehaaGreatPk12
namespace Go.Proofs.YtccbfekajbnehaaGreat.nm
open Go.ChangeShapes Go.WideShapes Go.ChangeAt Go.RowKit

def signN (c : Nat) : Bool := (decide (97 ≤ c) && decide (c ≤ 122)) || (decide (48 ≤ c) && decide (c ≤ 57)) || decide (c = 45)
def signB (c : UInt8) : Bool := signN c.toNat
def plainL (l : List UInt8) : Bool := decide (1 ≤ l.length) && decide (l.length ≤ 16) && l.all signB
def plainB (s : ByteArray) : Bool := plainL s.data.toList
def groupL (l : List UInt8) : Bool := plainL l && decide (l.length ≤ 8)
def groupB (s : ByteArray) : Bool := groupL s.data.toList

theorem sign_true {c : Nat} (h : (97 ≤ c ∧ c ≤ 122) ∨ (48 ≤ c ∧ c ≤ 57) ∨ c = 45) : signN c = true := by
  simp [signN]; omega
theorem sign_false {c : Nat} (h : ¬ ((97 ≤ c ∧ c ≤ 122) ∨ (48 ≤ c ∧ c ≤ 57) ∨ c = 45)) : signN c = false := by
  simp [signN]; omega

set_option maxHeartbeats 1000000 in
theorem sign_any (r : Nat) (w : World) :
    Calls Tryz.prog 91 #[.int .i32 (r : Int)] w fun e w' => e = .returned (.bool (signN r)) ∧ w = w' := by
  go_enter Tryz.func91, Tryz.ntmps91
  go_wp2
  all_goals
    go_ret
    refine ⟨ret_bool ?_, rfl⟩
    by_cases hz : (r : Int) = 45 <;> first
      | (rw [sign_true (by omega)]; done)
      | (rw [sign_false (by omega)]; done)
      | (rw [sign_true (by omega)]; simp [hz]; done)
      | (rw [sign_false (by omega)]; simp [hz]; done)
      | (rw [sign_true (by omega)]; simp [hz]; omega)
      | (rw [sign_false (by omega)]; simp [hz]; omega)

theorem notsign_any (r : Nat) (w : World) :
    Calls Tryz.prog 90 #[.int .i32 (r : Int)] w fun e w' => e = .returned (.bool (!signN r)) ∧ w = w' := by
  go_enter Tryz.func90, Tryz.ntmps90
  go_wp2_with (go_at_call 91; refine (sign_any _ _).mono ?_; rintro e w' ⟨rfl, rfl⟩)
  go_ret
  exact ⟨rfl, rfl⟩

theorem notsign_at (w : World) : PredAt Tryz.prog 90 #[] encR (fun r => !signN r) w := by
  intro W r _
  exact (notsign_any r W).mono fun e w' ⟨he, hw⟩ => ⟨he, 0, hw ▸ rfl⟩

/-! ### A text has no rune that is no sign just if it has no byte that is none -/
theorem decode_high (s : ByteArray) (i : Nat) (h : 128 ≤ (s.get! i).toNat) : 128 ≤ (Utf8.decode s i).1 := by
  rw [Lib.decode_at]
  unfold Lib.decodeN
  repeat' split
  all_goals first | omega | (simp only []; omega)
theorem get!_eq (s : ByteArray) (i : Nat) (h : i < s.size) : s.get! i = s[i] := by
  show s.data[i]! = _
  rw [getElem!_pos s.data i h]; rfl
theorem idx_sign (s : ByteArray) : ∀ (f pos : Nat), s.size ≤ pos + f → decide (Lib.idxFuncFrom (fun r => !signN r) true s f pos < 0) = (s.data.toList.drop pos).all signB
  | 0, pos, h => by
    have e : s.data.toList.drop pos = [] := List.drop_eq_nil_of_le (by simpa using h)
    simp [Lib.idxFuncFrom, e]
  | f + 1, pos, h => by
    unfold Lib.idxFuncFrom
    by_cases hp : pos < s.size
    · rw [if_pos hp]
      have hd : s.data.toList.drop pos = s[pos] :: s.data.toList.drop (pos + 1) := by
        rw [List.drop_eq_getElem_cons (by simpa using hp)]; rfl
      rw [hd, List.all_cons]
      by_cases hb : (s[pos]).toNat < 128
      · rw [decode_ascii s pos hp hb]
        by_cases hs : signB s[pos] = true
        · have hs' : signN s[pos].toNat = true := hs
          simp only [hs', hs, Bool.true_and]
          simpa using idx_sign s f (pos + 1) (by omega)
        · have hs1 : signB s[pos] = false := by simpa using hs
          have hs' : signN s[pos].toNat = false := hs1
          simp only [hs', hs1]
          simp
      · have h1 := decode_high s pos (by rw [get!_eq s pos hp]; omega)
        have h2 : signN (Utf8.decode s pos).1 = false := sign_false (by omega)
        have h3 : signB s[pos] = false := sign_false (by omega)
        simp only [h2, h3]
        simp
    · rw [if_neg hp]
      have e : s.data.toList.drop pos = [] := List.drop_eq_nil_of_le (by simp; omega)
      simp [e]
theorem idx_all (s : ByteArray) : decide (Lib.idxFunc (fun r => !signN r) true s < 0) = s.data.toList.all signB := by
  have := idx_sign s s.size 0 (by omega)
  rw [List.drop_zero] at this
  exact this

theorem plain_empty (s : ByteArray) (h : s.size = 0) : plainB s = false := by simp [plainB, plainL, h]
theorem plain_long (s : ByteArray) (h : 16 < s.size) : plainB s = false := by simp [plainB, plainL]; omega
theorem plain_mid (s : ByteArray) (h : 1 ≤ s.size) (h2 : s.size ≤ 16) : plainB s = s.data.toList.all signB := by
  simp [plainB, plainL, h2]; omega

theorem Plain_any (s : ByteArray) (w : World) :
    Calls Tryz.prog 68 #[.string s] w fun e w' => e = .returned (.bool (plainB s)) ∧ Calm w w' := by
  have hc : ∀ W, Calls Tryz.prog 89 #[.string s, .func (.func 90) #[] #[]] W fun e w' => e = .returned (.int .i64 (Lib.idxFunc (fun r => !signN r) true s)) ∧ Below W.heap.size W w' :=
    fun W => Tryz.strings_IndexFunc 90 #[] (enters_of Tryz.func90 (by kernel_rfl) rfl) _ s W (notsign_at W)
  have hi := idx_all s
  obtain ⟨I, hI⟩ : ∃ I, Lib.idxFunc (fun r => !signN r) true s = I := ⟨_, rfl⟩
  rw [hI] at hi
  simp only [hI] at hc
  have Hc := box hc
  clear hc
  by_cases h0 : s.size = 0
  · have : s.toList = [] := by rw [Lib.toList_data]; exact List.eq_nil_of_length_eq_zero (by simpa using h0)
    rw [plain_empty s h0]
    go_enter Tryz.func68, Tryz.ntmps68
    go_wp2
    go_ret
    exact ⟨ret_bool (by simp), Calm.refl _⟩
  · have h1 : (s.toList).isEmpty = false := by
      rw [Lib.toList_data, List.isEmpty_eq_false_iff]; intro h; apply h0; simpa using congrArg List.length h
    by_cases h2 : s.size ≤ 16
    · rw [plain_mid s (by omega) h2, ← hi]
      clear hI hi
      go_enter Tryz.func68, Tryz.ntmps68
      go_wp2_with (go_at_call 89; refine (Hc.out _).mono ?_; rintro e w' ⟨rfl, hb⟩)
      go_ret
      exact ⟨ret_bool (by simp), by assumption⟩
    · rw [plain_long s (by omega)]
      clear hI hi
      go_enter Tryz.func68, Tryz.ntmps68
      go_wp2_with (go_at_call 89; refine (Hc.out _).mono ?_; rintro e w' ⟨rfl, hb⟩)
      go_ret
      exact ⟨ret_bool (by simp), Calm.refl _⟩

theorem Group_any (s : ByteArray) (w : World) :
    Calls Tryz.prog 73 #[.string s] w fun e w' => e = .returned (.bool (groupB s)) ∧ Calm w w' := by
  cases hp : plainB s
  · have hg : groupB s = false := by unfold groupB groupL; rw [show plainL s.data.toList = false from hp]; rfl
    rw [hg]
    clear hg
    go_enter Tryz.func73, Tryz.ntmps73
    go_wp2_with (go_at_call 68; refine (Plain_any _ _).mono ?_; rintro e w' ⟨rfl, hb⟩)
    go_ret
    exact ⟨rfl, by assumption⟩
  · have hg : groupB s = decide ((s.size : Int) ≤ 8) := by
      unfold groupB groupL; rw [show plainL s.data.toList = true from hp]; simp; omega
    rw [hg]
    clear hg
    go_enter Tryz.func73, Tryz.ntmps73
    go_wp2_with (go_at_call 68; refine (Plain_any _ _).mono ?_; rintro e w' ⟨rfl, hb⟩)
    go_ret
    exact ⟨rfl, by assumption⟩

def ownS (h g : ByteArray) : ByteArray := if groupB g then h ++ g else ⟨#[]⟩
abbrev retryC : ByteArray := ⟨#[37, 114, 101, 116, 114, 121, 37]⟩
abbrev deadC : ByteArray := ⟨#[37, 100, 101, 97, 100, 37]⟩

def hasS (s h : ByteArray) : Bool := Lib.hasPrefix s.data.toList h.data.toList
def cutS (s h : ByteArray) : ByteArray := ⟨(Lib.trimPrefix s.data.toList h.data.toList).toArray⟩
def hitS (s h : ByteArray) : Bool := hasS s h && groupB (cutS s h)
def ofG (s : ByteArray) : ByteArray := if hitS s retryC then cutS s retryC else if hitS s deadC then cutS s deadC else ⟨#[]⟩
def ofOk (s : ByteArray) : Bool := hitS s retryC || hitS s deadC
theorem three (s h : ByteArray) : (hitS s h = false ∧ hasS s h = false) ∨ (hitS s h = false ∧ hasS s h = true ∧ groupB (cutS s h) = false) ∨ (hitS s h = true ∧ hasS s h = true ∧ groupB (cutS s h) = true) := by
  unfold hitS
  cases hasS s h <;> cases groupB (cutS s h) <;> simp
theorem Cut_any (s h : ByteArray) (w : World) :
    Calls Tryz.prog 72 #[.string s, .string h] w fun e w' => e = .returned (.tuple #[.string (cutS s h), .bool (hasS s h)]) ∧ w = w' :=
  (Tryz.strings_CutPrefix s h w).mono fun e w' ⟨he, hw⟩ => ⟨he, hw.symm⟩



set_option maxHeartbeats 1000000 in
theorem Of_any (s : ByteArray) (w : World) :
    Calls Tryz.prog 43 #[.string s] w fun e w' => e = .returned (.tuple #[.string (ofG s), .bool (ofOk s)]) ∧ Calm w w' := by
  rcases three s retryC with ⟨h0, h1⟩ | ⟨h0, h1, h2⟩ | ⟨h0, h1, h2⟩
  · rcases three s deadC with ⟨g0, g1⟩ | ⟨g0, g1, g2⟩ | ⟨g0, g1, g2⟩
    all_goals
      have e1 : ofG s = if hitS s deadC then cutS s deadC else ⟨#[]⟩ := by unfold ofG; rw [h0]; rfl
      have e2 : ofOk s = hitS s deadC := by unfold ofOk; rw [h0]; rfl
      rw [e1, e2, g0]
      clear e1 e2 h0 g0
      go_enter Tryz.func43, Tryz.ntmps43
      go_wp2
      refine wp_loop_rounds 3 ?_
      rw [rounds_succ]
      go_wp2_with (first | (go_at_call 72; refine (Cut_any _ retryC _).mono ?_; rintro e w' ⟨rfl, rfl⟩))
      rw [rounds_succ]
      go_wp2_with (first | (go_at_call 72; refine (Cut_any _ deadC _).mono ?_; rintro e w' ⟨rfl, rfl⟩) | (go_at_call 73; refine (Group_any _ _).mono ?_; rintro e w' ⟨rfl, hb⟩))
      try (rw [rounds_succ]; go_wp2)
      go_ret2
      refine ⟨rfl, ?_⟩
      (repeat' (first | (with_reducible exact Calm.refl _) | (with_reducible assumption) | (with_reducible refine Calm.drew ?_) | (with_reducible refine Calm.alloc ?_ _) | (with_reducible refine Calm.trans ?_ (by assumption))))
  · rcases three s deadC with ⟨g0, g1⟩ | ⟨g0, g1, g2⟩ | ⟨g0, g1, g2⟩
    all_goals
      have e1 : ofG s = if hitS s deadC then cutS s deadC else ⟨#[]⟩ := by unfold ofG; rw [h0]; rfl
      have e2 : ofOk s = hitS s deadC := by unfold ofOk; rw [h0]; rfl
      rw [e1, e2, g0]
      clear e1 e2 h0 g0
      go_enter Tryz.func43, Tryz.ntmps43
      go_wp2
      refine wp_loop_rounds 3 ?_
      rw [rounds_succ]
      go_wp2_with (first | (go_at_call 72; refine (Cut_any _ retryC _).mono ?_; rintro e w' ⟨rfl, rfl⟩) | (go_at_call 73; refine (Group_any _ _).mono ?_; rintro e w' ⟨rfl, hb⟩; obtain ⟨hbc, hbf⟩ := bcell hb))
      rw [rounds_succ]
      go_wp2_with (first | (go_at_call 72; refine (Cut_any _ deadC _).mono ?_; rintro e w' ⟨rfl, rfl⟩) | (go_at_call 73; refine (Group_any _ _).mono ?_; rintro e w' ⟨rfl, hb⟩))
      try (rw [rounds_succ]; go_wp2)
      go_ret2
      refine ⟨rfl, ?_⟩
      (repeat' (first | (with_reducible exact Calm.refl _) | (with_reducible assumption) | (with_reducible refine Calm.drew ?_) | (with_reducible refine Calm.alloc ?_ _) | (with_reducible refine Calm.trans ?_ (by assumption))))
  · have e1 : ofG s = cutS s retryC := by unfold ofG; rw [h0]; rfl
    have e2 : ofOk s = true := by unfold ofOk; rw [h0]; rfl
    rw [e1, e2]
    clear e1 e2 h0
    go_enter Tryz.func43, Tryz.ntmps43
    go_wp2
    refine wp_loop_rounds 3 ?_
    rw [rounds_succ]
    go_wp2_with (first | (go_at_call 72; refine (Cut_any _ retryC _).mono ?_; rintro e w' ⟨rfl, rfl⟩) | (go_at_call 73; refine (Group_any _ _).mono ?_; rintro e w' ⟨rfl, hb⟩))
    go_ret2
    refine ⟨rfl, ?_⟩
    (repeat' (first | (with_reducible exact Calm.refl _) | (with_reducible assumption) | (with_reducible refine Calm.drew ?_) | (with_reducible refine Calm.alloc ?_ _) | (with_reducible refine Calm.trans ?_ (by assumption))))



end Go.Proofs.YtccbfekajbnehaaGreat.nm
