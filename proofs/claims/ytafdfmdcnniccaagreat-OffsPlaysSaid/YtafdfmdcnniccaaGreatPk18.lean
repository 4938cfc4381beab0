/- The contracts of package name and of reveilleref03. Strings are of at most 2^62 bytes where a bound is wanted. -/
import Derived.Test.YtafdfmdcnniccaaGreatRows
import Derived.WalkKit
import Derived.ProofKit
import Derived.OpenShut
import Derived.Handy
import Derived.Deep.LoopGhost
import Derived.Lib.Hide
import Derived.Lib.Strings
import Derived.SizedLaws
import Derived.Maps.Own
import Derived.Maps.OwnOps
import Derived.Maps.OwnSet
import Derived.Maps.RangeWalk
import Derived.Deep.QuietTactic
import Derived.BigQuiet
import Derived.Deep.RegionHeld3
import Derived.Lib.ConvBytes
import Derived.Lib.AppendZeros
import Derived.Lib.AppendZerosOnto
import Derived.Lib.LazyBuf
import Derived.Shelf.Abstract
import Derived.LaidEql
import Derived.Lib.SliceRun
import Derived.StillTailTactics
import Derived.Deep.Slices
import Derived.Outline
import Derived.Laws.Cover1
import Derived.Deep.RegionLaw
import Derived.Deep.DeepCutAuto
import Derived.Deep.CutBlock
import Derived.Shelf.SlicesE.Clone
import Derived.Ground.SlgnProg
import Derived.Test.YtafdfmdcnniccaaGreatProg
import Derived.Shelf.Strings.Builder1
import Derived.Shelf.Small.Bits
import Derived.Shelf.Small.Wraps
import Derived.Shelf.Strings.BuilderF
import Derived.Shelf.Strings.BuilderK
import Derived.Shelf.Strconv.Itoa0
import Derived.Shelf.Sort.Plain
import Derived.Shelf.GgClosure.StringsIndexFunc
import Derived.Ground.GgwProg
import Derived.Shelf.GgClosure.StringsIndexFuncTop
import Derived.Shelf.GgClosure.StringsRunes
import Derived.Shelf.Strings.Prefix
import Derived.Shelf.Strings.BuilderCap
import Derived.Ground.Names2Prog
import Derived.Shelf.Slices.SearchI
import Derived.Shelf.Slices.In.SortNone
import Derived.Ground.SlgfProg
import Derived.Shelf.SlicesE.IndexFunc
import Derived.Shelf.SlicesE.DeleteFunc
import Derived.Lib.DecodeN
import Derived.Test.YtafdfmdcnniccaaGreatPk17
namespace Go.Proofs.YtafdfmdcnniccaaGreat.nm
open Go.ChangeShapes Go.WideShapes Go.ChangeAt Go.RowKit

def signN (c : Nat) : Bool := (decide (97 ≤ c) && decide (c ≤ 122)) || (decide (48 ≤ c) && decide (c ≤ 57)) || decide (c = 45)
def signB (c : UInt8) : Bool := signN c.toNat
def plainL (l : List UInt8) : Bool := decide (1 ≤ l.length) && decide (l.length ≤ 16) && l.all signB
def plainB (s : ByteArray) : Bool := plainL s.data.toList
def groupL (l : List UInt8) : Bool := plainL l && decide (l.length ≤ 8)
def groupB (s : ByteArray) : Bool := groupL s.data.toList

theorem sign_true {c : Nat} (h : (97 ≤ c ∧ c ≤ 122) ∨ (48 ≤ c ∧ c ≤ 57) ∨ c = 45) : signN c = true := by
  simp [signN]; omega
theorem sign_false {c : Nat} (h : ¬ ((97 ≤ c ∧ c ≤ 122) ∨ (48 ≤ c ∧ c ≤ 57) ∨ c = 45)) : signN c = false := by
  simp [signN]; omega

set_option maxHeartbeats 1000000 in
theorem sign_any (r : Nat) (w : World) :
    Calls Tryz.prog 94 #[.int .i32 (r : Int)] w fun e w' => e = .returned (.bool (signN r)) ∧ w = w' := by
  go_enter Tryz.func94, Tryz.ntmps94
  go_wp2
  all_goals
    go_ret
    refine ⟨ret_bool ?_, rfl⟩
    by_cases hz : (r : Int) = 45 <;> first
      | (rw [sign_true (by omega)]; done)
      | (rw [sign_false (by omega)]; done)
      | (rw [sign_true (by omega)]; simp [hz]; done)
      | (rw [sign_false (by omega)]; simp [hz]; done)
      | (rw [sign_true (by omega)]; simp [hz]; omega)
      | (rw [sign_false (by omega)]; simp [hz]; omega)

theorem notsign_any (r : Nat) (w : World) :
    Calls Tryz.prog 93 #[.int .i32 (r : Int)] w fun e w' => e = .returned (.bool (!signN r)) ∧ w = w' := by
  go_enter Tryz.func93, Tryz.ntmps93
  go_wp2_with (go_at_call 94; refine (sign_any _ _).mono ?_; rintro e w' ⟨rfl, rfl⟩)
  go_ret
  exact ⟨rfl, rfl⟩

theorem notsign_at (w : World) : PredAt Tryz.prog 93 #[] encR (fun r => !signN r) w := by
  intro W r _
  exact (notsign_any r W).mono fun e w' ⟨he, hw⟩ => ⟨he, 0, hw ▸ rfl⟩

/-! ### A text has no rune that is no sign just if it has no byte that is none -/
theorem decode_high (s : ByteArray) (i : Nat) (h : 128 ≤ (s.get! i).toNat) : 128 ≤ (Utf8.decode s i).1 := by
  rw [Lib.decode_at]
  unfold Lib.decodeN
  repeat' split
  all_goals first | omega | (simp only []; omega)
theorem get!_eq (s : ByteArray) (i : Nat) (h : i < s.size) : s.get! i = s[i] := by
  show s.data[i]! = _
  rw [getElem!_pos s.data i h]; rfl
theorem idx_sign (s : ByteArray) : ∀ (f pos : Nat), s.size ≤ pos + f → decide (Lib.idxFuncFrom (fun r => !signN r) true s f pos < 0) = (s.data.toList.drop pos).all signB
  | 0, pos, h => by
    have e : s.data.toList.drop pos = [] := List.drop_eq_nil_of_le (by simpa using h)
    simp [Lib.idxFuncFrom, e]
  | f + 1, pos, h => by
    unfold Lib.idxFuncFrom
    by_cases hp : pos < s.size
    · rw [if_pos hp]
      have hd : s.data.toList.drop pos = s[pos] :: s.data.toList.drop (pos + 1) := by
        rw [List.drop_eq_getElem_cons (by simpa using hp)]; rfl
      rw [hd, List.all_cons]
      by_cases hb : (s[pos]).toNat < 128
      · rw [decode_ascii s pos hp hb]
        by_cases hs : signB s[pos] = true
        · have hs' : signN s[pos].toNat = true := hs
          simp only [hs', hs, Bool.true_and]
          simpa using idx_sign s f (pos + 1) (by omega)
        · have hs1 : signB s[pos] = false := by simpa using hs
          have hs' : signN s[pos].toNat = false := hs1
          simp only [hs', hs1]
          simp
      · have h1 := decode_high s pos (by rw [get!_eq s pos hp]; omega)
        have h2 : signN (Utf8.decode s pos).1 = false := sign_false (by omega)
        have h3 : signB s[pos] = false := sign_false (by omega)
        simp only [h2, h3]
        simp
    · rw [if_neg hp]
      have e : s.data.toList.drop pos = [] := List.drop_eq_nil_of_le (by simp; omega)
      simp [e]
theorem idx_all (s : ByteArray) : decide (Lib.idxFunc (fun r => !signN r) true s < 0) = s.data.toList.all signB := by
  have := idx_sign s s.size 0 (by omega)
  rw [List.drop_zero] at this
  exact this

theorem plain_empty (s : ByteArray) (h : s.size = 0) : plainB s = false := by simp [plainB, plainL, h]
theorem plain_long (s : ByteArray) (h : 16 < s.size) : plainB s = false := by simp [plainB, plainL]; omega
theorem plain_mid (s : ByteArray) (h : 1 ≤ s.size) (h2 : s.size ≤ 16) : plainB s = s.data.toList.all signB := by
  simp [plainB, plainL, h2]; omega

theorem Plain_any (s : ByteArray) (w : World) :
    Calls Tryz.prog 70 #[.string s] w fun e w' => e = .returned (.bool (plainB s)) ∧ Calm w w' := by
  have hc : ∀ W, Calls Tryz.prog 92 #[.string s, .func (.func 93) #[] #[]] W fun e w' => e = .returned (.int .i64 (Lib.idxFunc (fun r => !signN r) true s)) ∧ Below W.heap.size W w' :=
    fun W => Tryz.strings_IndexFunc 93 #[] (enters_of Tryz.func93 (by kernel_rfl) rfl) _ s W (notsign_at W)
  have hi := idx_all s
  obtain ⟨I, hI⟩ : ∃ I, Lib.idxFunc (fun r => !signN r) true s = I := ⟨_, rfl⟩
  rw [hI] at hi
  simp only [hI] at hc
  have Hc := box hc
  clear hc
  by_cases h0 : s.size = 0
  · have : s.toList = [] := by rw [Lib.toList_data]; exact List.eq_nil_of_length_eq_zero (by simpa using h0)
    rw [plain_empty s h0]
    go_enter Tryz.func70, Tryz.ntmps70
    go_wp2
    go_ret
    exact ⟨ret_bool (by simp), Calm.refl _⟩
  · have h1 : (s.toList).isEmpty = false := by
      rw [Lib.toList_data, List.isEmpty_eq_false_iff]; intro h; apply h0; simpa using congrArg List.length h
    by_cases h2 : s.size ≤ 16
    · rw [plain_mid s (by omega) h2, ← hi]
      clear hI hi
      go_enter Tryz.func70, Tryz.ntmps70
      go_wp2_with (go_at_call 92; refine (Hc.out _).mono ?_; rintro e w' ⟨rfl, hb⟩)
      go_ret
      exact ⟨ret_bool (by simp), by assumption⟩
    · rw [plain_long s (by omega)]
      clear hI hi
      go_enter Tryz.func70, Tryz.ntmps70
      go_wp2_with (go_at_call 92; refine (Hc.out _).mono ?_; rintro e w' ⟨rfl, hb⟩)
      go_ret
      exact ⟨ret_bool (by simp), Calm.refl _⟩

theorem Group_any (s : ByteArray) (w : World) :
    Calls Tryz.prog 44 #[.string s] w fun e w' => e = .returned (.bool (groupB s)) ∧ Calm w w' := by
  cases hp : plainB s
  · have hg : groupB s = false := by unfold groupB groupL; rw [show plainL s.data.toList = false from hp]; rfl
    rw [hg]
    clear hg
    go_enter Tryz.func44, Tryz.ntmps44
    go_wp2_with (go_at_call 70; refine (Plain_any _ _).mono ?_; rintro e w' ⟨rfl, hb⟩)
    go_ret
    exact ⟨rfl, by assumption⟩
  · have hg : groupB s = decide ((s.size : Int) ≤ 8) := by
      unfold groupB groupL; rw [show plainL s.data.toList = true from hp]; simp; omega
    rw [hg]
    clear hg
    go_enter Tryz.func44, Tryz.ntmps44
    go_wp2_with (go_at_call 70; refine (Plain_any _ _).mono ?_; rintro e w' ⟨rfl, hb⟩)
    go_ret
    exact ⟨rfl, by assumption⟩

def ownS (h g : ByteArray) : ByteArray := if groupB g then h ++ g else ⟨#[]⟩
abbrev retryC : ByteArray := ⟨#[37, 114, 101, 116, 114, 121, 37]⟩
abbrev deadC : ByteArray := ⟨#[37, 100, 101, 97, 100, 37]⟩

def hasS (s h : ByteArray) : Bool := Lib.hasPrefix s.data.toList h.data.toList
def cutS (s h : ByteArray) : ByteArray := ⟨(Lib.trimPrefix s.data.toList h.data.toList).toArray⟩
def hitS (s h : ByteArray) : Bool := hasS s h && groupB (cutS s h)
def ofG (s : ByteArray) : ByteArray := if hitS s retryC then cutS s retryC else if hitS s deadC then cutS s deadC else ⟨#[]⟩
def ofOk (s : ByteArray) : Bool := hitS s retryC || hitS s deadC
theorem three (s h : ByteArray) : (hitS s h = false ∧ hasS s h = false) ∨ (hitS s h = false ∧ hasS s h = true ∧ groupB (cutS s h) = false) ∨ (hitS s h = true ∧ hasS s h = true ∧ groupB (cutS s h) = true) := by
  unfold hitS
  cases hasS s h <;> cases groupB (cutS s h) <;> simp
theorem Cut_any (s h : ByteArray) (w : World) :
    Calls Tryz.prog 95 #[.string s, .string h] w fun e w' => e = .returned (.tuple #[.string (cutS s h), .bool (hasS s h)]) ∧ w = w' :=
  (Tryz.strings_CutPrefix s h w).mono fun e w' ⟨he, hw⟩ => ⟨he, hw.symm⟩



set_option maxHeartbeats 1000000 in
theorem Of_any (s : ByteArray) (w : World) :
    Calls Tryz.prog 71 #[.string s] w fun e w' => e = .returned (.tuple #[.string (ofG s), .bool (ofOk s)]) ∧ Calm w w' := by
  rcases three s retryC with ⟨h0, h1⟩ | ⟨h0, h1, h2⟩ | ⟨h0, h1, h2⟩
  · rcases three s deadC with ⟨g0, g1⟩ | ⟨g0, g1, g2⟩ | ⟨g0, g1, g2⟩
    all_goals
      have e1 : ofG s = if hitS s deadC then cutS s deadC else ⟨#[]⟩ := by unfold ofG; rw [h0]; rfl
      have e2 : ofOk s = hitS s deadC := by unfold ofOk; rw [h0]; rfl
      rw [e1, e2, g0]
      clear e1 e2 h0 g0
      go_enter Tryz.func71, Tryz.ntmps71
      go_wp2
      refine wp_loop_rounds 3 ?_
      rw [rounds_succ]
      go_wp2_with (first | (go_at_call 95; refine (Cut_any _ retryC _).mono ?_; rintro e w' ⟨rfl, rfl⟩))
      rw [rounds_succ]
      go_wp2_with (first | (go_at_call 95; refine (Cut_any _ deadC _).mono ?_; rintro e w' ⟨rfl, rfl⟩) | (go_at_call 44; refine (Group_any _ _).mono ?_; rintro e w' ⟨rfl, hb⟩))
      try (rw [rounds_succ]; go_wp2)
      go_ret2
      refine ⟨rfl, ?_⟩
      (repeat' (first | (with_reducible exact Calm.refl _) | (with_reducible assumption) | (with_reducible refine Calm.drew ?_) | (with_reducible refine Calm.alloc ?_ _) | (with_reducible refine Calm.trans ?_ (by assumption))))
  · rcases three s deadC with ⟨g0, g1⟩ | ⟨g0, g1, g2⟩ | ⟨g0, g1, g2⟩
    all_goals
      have e1 : ofG s = if hitS s deadC then cutS s deadC else ⟨#[]⟩ := by unfold ofG; rw [h0]; rfl
      have e2 : ofOk s = hitS s deadC := by unfold ofOk; rw [h0]; rfl
      rw [e1, e2, g0]
      clear e1 e2 h0 g0
      go_enter Tryz.func71, Tryz.ntmps71
      go_wp2
      refine wp_loop_rounds 3 ?_
      rw [rounds_succ]
      go_wp2_with (first | (go_at_call 95; refine (Cut_any _ retryC _).mono ?_; rintro e w' ⟨rfl, rfl⟩) | (go_at_call 44; refine (Group_any _ _).mono ?_; rintro e w' ⟨rfl, hb⟩; obtain ⟨hbc, hbf⟩ := bcell hb))
      rw [rounds_succ]
      go_wp2_with (first | (go_at_call 95; refine (Cut_any _ deadC _).mono ?_; rintro e w' ⟨rfl, rfl⟩) | (go_at_call 44; refine (Group_any _ _).mono ?_; rintro e w' ⟨rfl, hb⟩))
      try (rw [rounds_succ]; go_wp2)
      go_ret2
      refine ⟨rfl, ?_⟩
      (repeat' (first | (with_reducible exact Calm.refl _) | (with_reducible assumption) | (with_reducible refine Calm.drew ?_) | (with_reducible refine Calm.alloc ?_ _) | (with_reducible refine Calm.trans ?_ (by assumption))))
  · have e1 : ofG s = cutS s retryC := by unfold ofG; rw [h0]; rfl
    have e2 : ofOk s = true := by unfold ofOk; rw [h0]; rfl
    rw [e1, e2]
    clear e1 e2 h0
    go_enter Tryz.func71, Tryz.ntmps71
    go_wp2
    refine wp_loop_rounds 3 ?_
    rw [rounds_succ]
    go_wp2_with (first | (go_at_call 95; refine (Cut_any _ retryC _).mono ?_; rintro e w' ⟨rfl, rfl⟩) | (go_at_call 44; refine (Group_any _ _).mono ?_; rintro e w' ⟨rfl, hb⟩))
    go_ret2
    refine ⟨rfl, ?_⟩
    (repeat' (first | (with_reducible exact Calm.refl _) | (with_reducible assumption) | (with_reducible refine Calm.drew ?_) | (with_reducible refine Calm.alloc ?_ _) | (with_reducible refine Calm.trans ?_ (by assumption))))



end Go.Proofs.YtafdfmdcnniccaaGreat.nm

/- The contracts of package name and of reveilleref03, continued: hashes, keys, tags, topics. -/
namespace Go.Proofs.YtafdfmdcnniccaaGreat.nm
open Go.ChangeShapes Go.WideShapes Go.ChangeAt Go.RowKit

def hashFrom (h : Nat) (l : List UInt8) : Nat := l.foldl (fun h c => (31 * h + c.toNat) % 4294967296) h
def hashL (l : List UInt8) : Nat := hashFrom 0 l
def flatS (l : List ByteArray) : List UInt8 := (l.map (·.data.toList)).flatten
theorem hashFrom_lt (h : Nat) (hh : h < 4294967296) (l : List UInt8) : hashFrom h l < 4294967296 := by
  induction l generalizing h with
  | nil => exact hh
  | cons c l ih => exact ih _ (Nat.mod_lt _ (by omega))
theorem hashFrom_append (h : Nat) (a b : List UInt8) : hashFrom h (a ++ b) = hashFrom (hashFrom h a) b := by simp [hashFrom]
theorem hashFrom_snoc (h : Nat) (s : ByteArray) (k : Nat) (hk : k < s.size) : hashFrom h (s.data.toList.take (k + 1)) = (31 * hashFrom h (s.data.toList.take k) + (s[k]).toNat) % 4294967296 := by
  rw [List.take_succ_eq_append_getElem (by simpa using hk), hashFrom_append]; rfl
theorem flatS_snoc (l : List ByteArray) (k : Nat) (hk : k < l.length) : flatS (l.take (k + 1)) = flatS (l.take k) ++ (l.getD k ByteArray.empty).data.toList := by
  rw [List.take_succ_eq_append_getElem hk]; unfold flatS; rw [List.map_append, List.flatten_append]; simp [List.getD_eq_getElem?_getD, List.getElem?_eq_getElem hk]

end Go.Proofs.YtafdfmdcnniccaaGreat.nm

/- The contracts of package name and of reveilleref03, continued. -/
namespace Go.Proofs.YtafdfmdcnniccaaGreat.nm
open Go.ChangeShapes Go.WideShapes Go.ChangeAt Go.RowKit

def topicB (s : ByteArray) : Bool := ofOk s || plainB s
def tagB (s : ByteArray) : Bool := decide (s.size = 0) || plainB s
def keyN (c : Nat) : Bool := decide (33 ≤ c) && decide (c ≤ 126)
def keyL (l : List UInt8) : Bool := decide (1 ≤ l.length) && decide (l.length ≤ 16) && l.all (fun c => keyN c.toNat)
def keyB (s : ByteArray) : Bool := keyL s.data.toList

theorem isEmpty_iff (s : ByteArray) : s.toList.isEmpty = decide (s.size = 0) := by
  rw [Lib.toList_data, Bool.eq_iff_iff, List.isEmpty_iff, decide_eq_true_iff, ← size_toList, List.length_eq_zero_iff]

set_option maxHeartbeats 1000000 in
theorem Topic_any (s : ByteArray) (w : World) :
    Calls Tryz.prog 45 #[.string s] w fun e w' => e = .returned (.bool (topicB s)) ∧ Calm w w' := by
  cases hp : ofOk s
  · have hg : topicB s = plainB s := by unfold topicB; rw [hp]; rfl
    rw [hg]
    clear hg
    go_enter Tryz.func45, Tryz.ntmps45
    go_wp2_with (first | (go_at_call 71; refine (Of_any _ _).mono ?_; rintro e w' ⟨rfl, hb⟩) | (go_at_call 70; refine (Plain_any _ _).mono ?_; rintro e w' ⟨rfl, hb⟩))
    go_ret
    refine ⟨ret_bool (by simp), ?_⟩
    (repeat' (first | (with_reducible exact Calm.refl _) | (with_reducible assumption) | (with_reducible refine Calm.drew ?_) | (with_reducible refine Calm.alloc ?_ _) | (with_reducible refine Calm.trans ?_ (by assumption))))
  · have hg : topicB s = true := by unfold topicB; rw [hp]; rfl
    rw [hg]
    clear hg
    go_enter Tryz.func45, Tryz.ntmps45
    go_wp2_with (first | (go_at_call 71; refine (Of_any _ _).mono ?_; rintro e w' ⟨rfl, hb⟩) | (go_at_call 70; refine (Plain_any _ _).mono ?_; rintro e w' ⟨rfl, hb⟩))
    go_ret
    refine ⟨ret_bool (by simp), ?_⟩
    (repeat' (first | (with_reducible exact Calm.refl _) | (with_reducible assumption) | (with_reducible refine Calm.drew ?_) | (with_reducible refine Calm.alloc ?_ _) | (with_reducible refine Calm.trans ?_ (by assumption))))

/-! ### package reveilleref03 -/
theorem rSign (c : UInt8) (h : (97 ≤ (c.toNat : Int) ∧ (c.toNat : Int) ≤ 122) ∨ (48 ≤ (c.toNat : Int) ∧ (c.toNat : Int) ≤ 57) ∨ (c.toNat : Int) = 45) : signB c = true := sign_true (by omega)
theorem rSign' (c : UInt8) (h : ¬ ((97 ≤ (c.toNat : Int) ∧ (c.toNat : Int) ≤ 122) ∨ (48 ≤ (c.toNat : Int) ∧ (c.toNat : Int) ≤ 57) ∨ (c.toNat : Int) = 45)) : signB c = false := sign_false (by omega)

set_option maxHeartbeats 1000000 in
theorem rPlain_any (s : ByteArray) (w : World) (hs : s.size ≤ maxLen) :
    Calls Tryz.prog 59 #[.string s] w fun e w' => e = .returned (.bool (plainB s)) ∧ w = w' := by
  unfold maxLen at hs
  go_enter Tryz.func59, Tryz.ntmps59
  go_wp2
  go_loop [3] (fun i => ∃ k : Nat, k ≤ s.size ∧ i = .int .i64 k ∧ (s.data.toList.take k).all signB = true) (fun i => s.size - (intOf i).toNat)
  case atStart => exact ⟨0, Nat.zero_le _, rfl, rfl⟩
  case round =>
    obtain ⟨k, hk, rfl, hall⟩ := hrel
    have Hall := box hall
    clear hall
    by_cases hlt : k < s.size
    · by_cases hc : (97 ≤ (s[k].toNat : Int) ∧ (s[k].toNat : Int) ≤ 122) ∨ (48 ≤ (s[k].toNat : Int) ∧ (s[k].toNat : Int) ≤ 57) ∨ (s[k].toNat : Int) = 45
      · have fin := box (show (s.data.toList.take (k + 1)).all signB = true by rw [all_snoc s k hlt signB, Hall.out, Bool.true_and]; exact rSign _ hc)
        rcases hc with ⟨c1, c2⟩ | ⟨c1, c2⟩ | c1
        · go_wp2
          go_round
          case rel => exact ⟨k + 1, by omega, by go_num, fin.out⟩
          case measure => simp [intOf]; omega
        · go_wp2
          go_round
          case rel => exact ⟨k + 1, by omega, by go_num, fin.out⟩
          case measure => simp [intOf]; omega
        · have c2 : ((s[k].toNat : Int) != 45) = false := by simp [c1]
          have C1 := box c1
          have c3 : (s[k].toNat : Int) ≤ 45 := by omega
          have c4 : 45 ≤ (s[k].toNat : Int) := by omega
          clear c1
          go_wp2
          go_round
          case rel => exact ⟨k + 1, by omega, by go_num, fin.out⟩
          case measure => simp [intOf]; omega
      · have fin := box (show plainB s = false by unfold plainB plainL; rw [all_no s k hlt signB (rSign' _ hc)]; simp)
        have c2 : ((s[k].toNat : Int) != 45) = true := by rw [bne_iff_ne]; omega
        go_wp2
        all_goals
          first
            | (go_ret; exact ⟨ret_bool (by rw [fin.out]), rfl⟩)
            | (exfalso; simp at *; omega)
    · have hn := box (all_take s k (by omega) signB)
      by_cases h1 : 1 ≤ (s.size : Int)
      · have hp := box (show plainB s = decide ((s.size : Int) ≤ 16) by unfold plainB plainL; rw [← hn.out, Hall.out, size_toList, Bool.and_true, decide_eq_true (by omega : 1 ≤ s.size), Bool.true_and]; exact decide_eq_decide.2 (by omega))
        go_wp2
        go_ret
        exact ⟨ret_bool (by rw [hp.out]), rfl⟩
      · have hp := box (plain_empty s (by omega))
        go_wp2
        go_ret
        exact ⟨ret_bool (by rw [hp.out]), rfl⟩

end Go.Proofs.YtafdfmdcnniccaaGreat.nm

/- Layer 14: may an offset be? A copy of a row. -/
namespace Go.Proofs.YtafdfmdcnniccaaGreat.ofs
open Go.ChangeShapes Go.WideShapes Go.ChangeAt Go.RowKit
open Go.Proofs.YtafdfmdcnniccaaGreat.dk Go.Proofs.YtafdfmdcnniccaaGreat.nm

set_option maxRecDepth 100000 in
/-- A copy of its own. -/
theorem Clone_any (v : Value) (l : List OffS) (w : World) (h : OffsAt w v l) (hl : l.length ≤ 1000000) :
    Calls Tryz.prog 29 #[v] w fun e w' => ∃ v', e = .returned v' ∧ offRow w.heap.size w' v' l ∧ Calm w w' := by
  obtain ⟨a, cap, rfl, hp, hc⟩ := h
  obtain ⟨i0, hi, hz0, hz1, hz2⟩ := info_parts infoOff
  rcases hp with rfl | ⟨b, off, rfl⟩
  · have hl0 : l = [] := by
      cases l with
      | nil => rfl
      | cons x l => obtain ⟨b, off, e, _⟩ := hc 0 (by simp); cases e
    subst hl0
    refine (AnyE.slices_Clone_nil Tryz.gCloneO 0 cap w).mono ?_
    rintro e w' ⟨rfl, rfl⟩
    exact ⟨_, rfl, World.ownsRow_nil _ _ _ _, .refl _⟩
  · refine (AnyE.slices_Clone Tryz.gCloneO i0 _ 4 48 hi hz0 hz1 hz2 rfl (by decide) Tryz.sizeOf31 b off l.length cap (l.flatMap encO) w (encO_flat l) (by unfold maxLen; omega) (by omega) (fun j u hj => ?_) (fun u hu => ?_)).mono ?_
    · have hjl : j < l.length * 4 := by
        rw [← encO_flat l]
        exact (List.getElem?_eq_some_iff.1 hj).1
      obtain ⟨b', off', e, _, c0, c1, c2, c3⟩ := hc (j / 4) (by omega)
      cases e
      obtain ⟨g0, g1, g2, g3⟩ := encO_get l (j / 4) (by omega)
      rcases (show j % 4 = 0 ∨ j % 4 = 1 ∨ j % 4 = 2 ∨ j % 4 = 3 by omega) with hm | hm | hm | hm
      · rw [show j / 4 * 4 = j by omega] at c0 g0
        rw [g0] at hj; cases hj; exact c0
      · rw [show j / 4 * 4 + 1 = j by omega] at g1
        rw [Nat.add_assoc, show j / 4 * 4 + 1 = j by omega] at c1
        rw [g1] at hj; cases hj; exact c1
      · rw [show j / 4 * 4 + 2 = j by omega] at g2
        rw [Nat.add_assoc, show j / 4 * 4 + 2 = j by omega] at c2
        rw [g2] at hj; cases hj; exact c2
      · rw [show j / 4 * 4 + 3 = j by omega] at g3
        rw [Nat.add_assoc, show j / 4 * 4 + 3 = j by omega] at c3
        rw [g3] at hj; cases hj; exact c3
    · obtain ⟨x, _, hx⟩ := List.mem_flatMap.1 hu
      simp only [encO, List.mem_cons, List.not_mem_nil, or_false] at hx
      rcases hx with rfl | rfl | rfl | rfl <;> rfl
    · rintro e w' ⟨v', rfl, hrow, _, hb⟩
      exact ⟨v', rfl, hrow, hb⟩
/-- May an offset be, or why not? -/
def rightO (x : OffS) : Int :=
  if groupB x.group = false ∨ topicB x.topic = false then 11 else if x.queue < 0 ∨ 3 ≤ x.queue then 13 else if x.at_ < 0 ∨ 1099511627776 < x.at_ then 2 else 0
set_option maxRecDepth 100000 in
set_option maxHeartbeats 4000000 in
theorem right_any (x : OffS) (w : World) :
    Calls Tryz.prog 23 #[.agg (offA x)] w fun e w' => e = .returned (.int .i64 (rightO x)) ∧ Calm w w' := by
  obtain ⟨xg, xt, xq, xa⟩ := x
  unfold offA
  simp only
  have hn0 := heap_new w (.cells #[.string xg, .string xt, .int .i64 xq, .int .i64 xa] 31)
  have HC0 := box ((Calm.refl w).alloc (.cells #[.string xg, .string xt, .int .i64 xq, .int .i64 xa] 31))
  have Hn := box hn0
  have hg := box (fun W => Group_any xg W)
  have ht := box (fun W => Topic_any xt W)
  have Hr := box (show rightO ⟨xg, xt, xq, xa⟩ = if groupB xg = false ∨ topicB xt = false then 11 else if xq < 0 ∨ 3 ≤ xq then 13 else if xa < 0 ∨ 1099511627776 < xa then 2 else 0 from rfl)
  obtain ⟨r, hr⟩ : ∃ r, rightO ⟨xg, xt, xq, xa⟩ = r := ⟨_, rfl⟩
  rw [hr] at Hr ⊢
  obtain ⟨g, hgg⟩ : ∃ g, groupB xg = g := ⟨_, rfl⟩
  obtain ⟨t, htt⟩ : ∃ t, topicB xt = t := ⟨_, rfl⟩
  rw [hgg] at hg Hr
  rw [htt] at ht Hr
  clear hr hgg htt hn0
  cases g
  · have Hr2 := box (show r = 11 by rw [Hr.out]; rfl)
    clear Hr
    go_enter Tryz.func23, Tryz.ntmps23
    go_wp2_with fail
    refine (hg.out _).mono ?_
    rintro e w1 ⟨rfl, hc1⟩
    have HC1 := box (HC0.out.trans hc1)
    clear hc1
    go_wp2_with fail
    go_ret
    exact ⟨ret_int (by rw [Hr2.out]), HC1.out⟩
  cases t
  · have Hr2 := box (show r = 11 by rw [Hr.out]; rfl)
    clear Hr
    go_enter Tryz.func23, Tryz.ntmps23
    go_wp2_with fail
    refine (hg.out _).mono ?_
    rintro e w1 ⟨rfl, hc1⟩
    have HC1 := box hc1
    have j1 := heap_calm hc1 Hn.out
    have r1 := cell_of j1 1
    have jlt := heap_lt j1
    clear hc1 j1
    go_wp2_with fail
    refine (ht.out _).mono ?_
    rintro e w2 ⟨rfl, hc2⟩
    have HC2 := box (HC0.out.trans (HC1.out.trans hc2))
    clear hc2 r1 jlt
    go_wp2_with fail
    go_ret
    exact ⟨ret_int (by rw [Hr2.out]), HC2.out⟩
  have Hr2 := box (show r = if xq < 0 ∨ 3 ≤ xq then 13 else if xa < 0 ∨ 1099511627776 < xa then 2 else 0 by rw [Hr.out, if_neg (by simp)])
  clear Hr
  go_enter Tryz.func23, Tryz.ntmps23
  go_wp2_with fail
  refine (hg.out _).mono ?_
  rintro e w1 ⟨rfl, hc1⟩
  have HC1 := box hc1
  have j1 := heap_calm hc1 Hn.out
  have r1 := cell_of j1 1
  have jlt := heap_lt j1
  clear hc1 j1
  go_wp2_with fail
  refine (ht.out _).mono ?_
  rintro e w2 ⟨rfl, hc2⟩
  have HC2 := box (HC0.out.trans (HC1.out.trans hc2))
  have j2 := heap_calm (HC1.out.trans hc2) Hn.out
  have r2 := cell_of j2 2
  have r3 := cell_of j2 3
  have jlt2 := heap_lt j2
  clear hc2 r1 jlt j2
  by_cases h1 : xq < 0
  · go_wp2_with fail
    go_ret
    exact ⟨ret_int (by rw [Hr2.out, if_pos (.inl h1)]), HC2.out⟩
  by_cases h2 : 3 ≤ xq
  · go_wp2_with fail
    go_ret
    exact ⟨ret_int (by rw [Hr2.out, if_pos (.inr h2)]), HC2.out⟩
  by_cases h3 : xa < 0
  · go_wp2_with fail
    go_ret
    exact ⟨ret_int (by rw [Hr2.out, if_neg (by omega), if_pos (.inl h3)]), HC2.out⟩
  by_cases h4 : 1099511627776 < xa
  · go_wp2_with fail
    go_ret
    exact ⟨ret_int (by rw [Hr2.out, if_neg (by omega), if_pos (.inr h4)]), HC2.out⟩
  · go_wp2_with fail
    go_ret
    exact ⟨ret_int (by rw [Hr2.out, if_neg (by omega), if_neg (by omega)]), HC2.out⟩
end Go.Proofs.YtafdfmdcnniccaaGreat.ofs
