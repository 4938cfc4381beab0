/- The contracts of package name and of reveilleref03. Strings are of at most 2^62 bytes where a bound is wanted. -/
import Derived.Test.YtdepejneliacpaaGreatDoorRows
import Derived.WalkKit
import Derived.ProofKit
import Derived.OpenShut
import Derived.Handy
import Derived.Deep.LoopGhost
import Derived.Lib.Hide
import Derived.Lib.Strings
import Derived.SizedLaws
import Derived.Maps.Own
import Derived.Maps.OwnOps
import Derived.Maps.OwnSet
import Derived.Maps.RangeWalk
import Derived.Deep.QuietTactic
import Derived.BigQuiet
import Derived.Deep.RegionHeld3
import Derived.Lib.ConvBytes
import Derived.Lib.AppendZeros
import Derived.Lib.AppendZerosOnto
import Derived.Lib.LazyBuf
import Derived.Shelf.Abstract
import Derived.LaidEql
import Derived.Lib.SliceRun
import Derived.StillTailTactics
import Derived.Deep.Slices
import Derived.Lib.Atoi
import Derived.Lib.ItoaNum
import Derived.Lib.SlTrimSet
import Derived.Shelf.SlIter.Nil
import Derived.Ground.GgzProg
import Derived.Shelf.SortM.Plain
import Derived.Shelf.SortM.SortNone
import Derived.Ground.SlgmProg
import Derived.Shelf.SlicesE.DeleteFunc
import Derived.Ground.SlgfProg
import Derived.Test.YtdepejneliacpaaGreatDoorProg
import Derived.Shelf.Strings.Builder1
import Derived.Shelf.Strings.Builder2
import Derived.Shelf.Strings.Trim
import Derived.Shelf.Small.Utf8
import Derived.Shelf.Small.Bits
import Derived.Shelf.Small.Strs
import Derived.Shelf.Small.Wraps
import Derived.Shelf.Strings.BuilderF
import Derived.Shelf.Strings.BuilderK
import Derived.Shelf.Strings.Builder2Cap
import Derived.Shelf.Strconv.Atoi
import Derived.Shelf.Strconv.Itoa0
import Derived.Shelf.Strconv.Itoa1
import Derived.Shelf.LaysM
import Derived.Shelf.Strconv.Itoa2
import Derived.Shelf.Strconv.Itoa3
import Derived.Shelf.Strings.Search1
import Derived.Shelf.Sort.Plain
import Derived.Shelf.GgClosure.StringsIndexFunc
import Derived.Ground.GgwProg
import Derived.Shelf.GgClosure.StringsIndexFuncTop
import Derived.Shelf.GgClosure.StringsRunes
import Derived.Shelf.Strings.Prefix
import Derived.Shelf.Strings.Runes
import Derived.Shelf.Strings.AsciiSet
import Derived.Shelf.Bits.Mul64
import Derived.Shelf.Strings.Repeat
import Derived.Shelf.Unicode.DecodeSlow
import Derived.Shelf.Unicode.DecodeAny
import Derived.Shelf.Unicode.DecodeLast
import Derived.Shelf.Strings.BuilderCap
import Derived.Shelf.Slices.Equal
import Derived.Ground.Names2Prog
import Derived.Shelf.Slices.Clone
import Derived.Shelf.Slices.CompactS
import Derived.Shelf.Slices.SearchI
import Derived.Shelf.Slices.Cells
import Derived.Shelf.Slices.In.SortNone
import Derived.Shelf.Slices.Empties2
import Derived.Ground.SlgnProg
import Derived.Shelf.SlicesE.Equal
import Derived.Shelf.SlicesE.Compact
import Derived.Shelf.SlicesE.Clone
import Derived.Shelf.SlicesE.IndexFunc
import Derived.Shelf.Strings.SlTrimAscii
import Derived.Lib.Repeat
import Derived.Lib.LaidTab
import Derived.Deep.RegionLaw
import Derived.Deep.RegionWith
import Derived.Lib.AtoiErrMem
import Derived.Laws.MakeOwn
import Derived.Lib.Builder
import Derived.Lib.AppendStr
import Derived.Lib.DecodeN
import Derived.Test.YtdepejneliacpaaGreatDoorPk23
namespace Go.Proofs.YtdepejneliacpaaGreatDoor.nm
open Go.ChangeShapes Go.WideShapes Go.ChangeAt Go.RowKit

def signN (c : Nat) : Bool := (decide (97 ≤ c) && decide (c ≤ 122)) || (decide (48 ≤ c) && decide (c ≤ 57)) || decide (c = 45)
def signB (c : UInt8) : Bool := signN c.toNat
def plainL (l : List UInt8) : Bool := decide (1 ≤ l.length) && decide (l.length ≤ 16) && l.all signB
def plainB (s : ByteArray) : Bool := plainL s.data.toList
def groupL (l : List UInt8) : Bool := plainL l && decide (l.length ≤ 8)
def groupB (s : ByteArray) : Bool := groupL s.data.toList

theorem sign_true {c : Nat} (h : (97 ≤ c ∧ c ≤ 122) ∨ (48 ≤ c ∧ c ≤ 57) ∨ c = 45) : signN c = true := by
  simp [signN]; omega
theorem sign_false {c : Nat} (h : ¬ ((97 ≤ c ∧ c ≤ 122) ∨ (48 ≤ c ∧ c ≤ 57) ∨ c = 45)) : signN c = false := by
  simp [signN]; omega

set_option maxHeartbeats 1000000 in
theorem sign_any (r : Nat) (w : World) :
    Calls Tryz.prog 195 #[.int .i32 (r : Int)] w fun e w' => e = .returned (.bool (signN r)) ∧ w = w' := by
  go_enter Tryz.func195, Tryz.ntmps195
  go_wp2
  all_goals
    go_ret
    refine ⟨ret_bool ?_, rfl⟩
    by_cases hz : (r : Int) = 45 <;> first
      | (rw [sign_true (by omega)]; done)
      | (rw [sign_false (by omega)]; done)
      | (rw [sign_true (by omega)]; simp [hz]; done)
      | (rw [sign_false (by omega)]; simp [hz]; done)
      | (rw [sign_true (by omega)]; simp [hz]; omega)
      | (rw [sign_false (by omega)]; simp [hz]; omega)

theorem notsign_any (r : Nat) (w : World) :
    Calls Tryz.prog 194 #[.int .i32 (r : Int)] w fun e w' => e = .returned (.bool (!signN r)) ∧ w = w' := by
  go_enter Tryz.func194, Tryz.ntmps194
  go_wp2_with (go_at_call 195; refine (sign_any _ _).mono ?_; rintro e w' ⟨rfl, rfl⟩)
  go_ret
  exact ⟨rfl, rfl⟩

theorem notsign_at (w : World) : PredAt Tryz.prog 194 #[] encR (fun r => !signN r) w := by
  intro W r _
  exact (notsign_any r W).mono fun e w' ⟨he, hw⟩ => ⟨he, 0, hw ▸ rfl⟩

/-! ### A text has no rune that is no sign just if it has no byte that is none -/
theorem decode_high (s : ByteArray) (i : Nat) (h : 128 ≤ (s.get! i).toNat) : 128 ≤ (Utf8.decode s i).1 := by
  rw [Lib.decode_at]
  unfold Lib.decodeN
  repeat' split
  all_goals first | omega | (simp only []; omega)
theorem get!_eq (s : ByteArray) (i : Nat) (h : i < s.size) : s.get! i = s[i] := by
  show s.data[i]! = _
  rw [getElem!_pos s.data i h]; rfl
theorem idx_sign (s : ByteArray) : ∀ (f pos : Nat), s.size ≤ pos + f → decide (Lib.idxFuncFrom (fun r => !signN r) true s f pos < 0) = (s.data.toList.drop pos).all signB
  | 0, pos, h => by
    have e : s.data.toList.drop pos = [] := List.drop_eq_nil_of_le (by simpa using h)
    simp [Lib.idxFuncFrom, e]
  | f + 1, pos, h => by
    unfold Lib.idxFuncFrom
    by_cases hp : pos < s.size
    · rw [if_pos hp]
      have hd : s.data.toList.drop pos = s[pos] :: s.data.toList.drop (pos + 1) := by
        rw [List.drop_eq_getElem_cons (by simpa using hp)]; rfl
      rw [hd, List.all_cons]
      by_cases hb : (s[pos]).toNat < 128
      · rw [decode_ascii s pos hp hb]
        by_cases hs : signB s[pos] = true
        · have hs' : signN s[pos].toNat = true := hs
          simp only [hs', hs, Bool.true_and]
          simpa using idx_sign s f (pos + 1) (by omega)
        · have hs1 : signB s[pos] = false := by simpa using hs
          have hs' : signN s[pos].toNat = false := hs1
          simp only [hs', hs1]
          simp
      · have h1 := decode_high s pos (by rw [get!_eq s pos hp]; omega)
        have h2 : signN (Utf8.decode s pos).1 = false := sign_false (by omega)
        have h3 : signB s[pos] = false := sign_false (by omega)
        simp only [h2, h3]
        simp
    · rw [if_neg hp]
      have e : s.data.toList.drop pos = [] := List.drop_eq_nil_of_le (by simp; omega)
      simp [e]
theorem idx_all (s : ByteArray) : decide (Lib.idxFunc (fun r => !signN r) true s < 0) = s.data.toList.all signB := by
  have := idx_sign s s.size 0 (by omega)
  rw [List.drop_zero] at this
  exact this

theorem plain_empty (s : ByteArray) (h : s.size = 0) : plainB s = false := by simp [plainB, plainL, h]
theorem plain_long (s : ByteArray) (h : 16 < s.size) : plainB s = false := by simp [plainB, plainL]; omega
theorem plain_mid (s : ByteArray) (h : 1 ≤ s.size) (h2 : s.size ≤ 16) : plainB s = s.data.toList.all signB := by
  simp [plainB, plainL, h2]; omega

theorem Plain_any (s : ByteArray) (w : World) :
    Calls Tryz.prog 155 #[.string s] w fun e w' => e = .returned (.bool (plainB s)) ∧ Calm w w' := by
  have hc : ∀ W, Calls Tryz.prog 193 #[.string s, .func (.func 194) #[] #[]] W fun e w' => e = .returned (.int .i64 (Lib.idxFunc (fun r => !signN r) true s)) ∧ Below W.heap.size W w' :=
    fun W => Tryz.strings_IndexFunc 194 #[] (enters_of Tryz.func194 (by kernel_rfl) rfl) _ s W (notsign_at W)
  have hi := idx_all s
  obtain ⟨I, hI⟩ : ∃ I, Lib.idxFunc (fun r => !signN r) true s = I := ⟨_, rfl⟩
  rw [hI] at hi
  simp only [hI] at hc
  have Hc := box hc
  clear hc
  by_cases h0 : s.size = 0
  · have : s.toList = [] := by rw [Lib.toList_data]; exact List.eq_nil_of_length_eq_zero (by simpa using h0)
    rw [plain_empty s h0]
    go_enter Tryz.func155, Tryz.ntmps155
    go_wp2
    go_ret
    exact ⟨ret_bool (by simp), Calm.refl _⟩
  · have h1 : (s.toList).isEmpty = false := by
      rw [Lib.toList_data, List.isEmpty_eq_false_iff]; intro h; apply h0; simpa using congrArg List.length h
    by_cases h2 : s.size ≤ 16
    · rw [plain_mid s (by omega) h2, ← hi]
      clear hI hi
      go_enter Tryz.func155, Tryz.ntmps155
      go_wp2_with (go_at_call 193; refine (Hc.out _).mono ?_; rintro e w' ⟨rfl, hb⟩)
      go_ret
      exact ⟨ret_bool (by simp), by assumption⟩
    · rw [plain_long s (by omega)]
      clear hI hi
      go_enter Tryz.func155, Tryz.ntmps155
      go_wp2_with (go_at_call 193; refine (Hc.out _).mono ?_; rintro e w' ⟨rfl, hb⟩)
      go_ret
      exact ⟨ret_bool (by simp), Calm.refl _⟩

theorem Group_any (s : ByteArray) (w : World) :
    Calls Tryz.prog 192 #[.string s] w fun e w' => e = .returned (.bool (groupB s)) ∧ Calm w w' := by
  cases hp : plainB s
  · have hg : groupB s = false := by unfold groupB groupL; rw [show plainL s.data.toList = false from hp]; rfl
    rw [hg]
    clear hg
    go_enter Tryz.func192, Tryz.ntmps192
    go_wp2_with (go_at_call 155; refine (Plain_any _ _).mono ?_; rintro e w' ⟨rfl, hb⟩)
    go_ret
    exact ⟨rfl, by assumption⟩
  · have hg : groupB s = decide ((s.size : Int) ≤ 8) := by
      unfold groupB groupL; rw [show plainL s.data.toList = true from hp]; simp; omega
    rw [hg]
    clear hg
    go_enter Tryz.func192, Tryz.ntmps192
    go_wp2_with (go_at_call 155; refine (Plain_any _ _).mono ?_; rintro e w' ⟨rfl, hb⟩)
    go_ret
    exact ⟨rfl, by assumption⟩

def ownS (h g : ByteArray) : ByteArray := if groupB g then h ++ g else ⟨#[]⟩
abbrev retryC : ByteArray := ⟨#[37, 114, 101, 116, 114, 121, 37]⟩
abbrev deadC : ByteArray := ⟨#[37, 100, 101, 97, 100, 37]⟩

def hasS (s h : ByteArray) : Bool := Lib.hasPrefix s.data.toList h.data.toList
def cutS (s h : ByteArray) : ByteArray := ⟨(Lib.trimPrefix s.data.toList h.data.toList).toArray⟩
def hitS (s h : ByteArray) : Bool := hasS s h && groupB (cutS s h)
def ofG (s : ByteArray) : ByteArray := if hitS s retryC then cutS s retryC else if hitS s deadC then cutS s deadC else ⟨#[]⟩
def ofOk (s : ByteArray) : Bool := hitS s retryC || hitS s deadC
theorem three (s h : ByteArray) : (hitS s h = false ∧ hasS s h = false) ∨ (hitS s h = false ∧ hasS s h = true ∧ groupB (cutS s h) = false) ∨ (hitS s h = true ∧ hasS s h = true ∧ groupB (cutS s h) = true) := by
  unfold hitS
  cases hasS s h <;> cases groupB (cutS s h) <;> simp
theorem Cut_any (s h : ByteArray) (w : World) :
    Calls Tryz.prog 191 #[.string s, .string h] w fun e w' => e = .returned (.tuple #[.string (cutS s h), .bool (hasS s h)]) ∧ w = w' :=
  (Tryz.strings_CutPrefix s h w).mono fun e w' ⟨he, hw⟩ => ⟨he, hw.symm⟩



set_option maxHeartbeats 1000000 in
theorem Of_any (s : ByteArray) (w : World) :
    Calls Tryz.prog 154 #[.string s] w fun e w' => e = .returned (.tuple #[.string (ofG s), .bool (ofOk s)]) ∧ Calm w w' := by
  rcases three s retryC with ⟨h0, h1⟩ | ⟨h0, h1, h2⟩ | ⟨h0, h1, h2⟩
  · rcases three s deadC with ⟨g0, g1⟩ | ⟨g0, g1, g2⟩ | ⟨g0, g1, g2⟩
    all_goals
      have e1 : ofG s = if hitS s deadC then cutS s deadC else ⟨#[]⟩ := by unfold ofG; rw [h0]; rfl
      have e2 : ofOk s = hitS s deadC := by unfold ofOk; rw [h0]; rfl
      rw [e1, e2, g0]
      clear e1 e2 h0 g0
      go_enter Tryz.func154, Tryz.ntmps154
      go_wp2
      refine wp_loop_rounds 3 ?_
      rw [rounds_succ]
      go_wp2_with (first | (go_at_call 191; refine (Cut_any _ retryC _).mono ?_; rintro e w' ⟨rfl, rfl⟩))
      rw [rounds_succ]
      go_wp2_with (first | (go_at_call 191; refine (Cut_any _ deadC _).mono ?_; rintro e w' ⟨rfl, rfl⟩) | (go_at_call 192; refine (Group_any _ _).mono ?_; rintro e w' ⟨rfl, hb⟩))
      try (rw [rounds_succ]; go_wp2)
      go_ret2
      refine ⟨rfl, ?_⟩
      (repeat' (first | (with_reducible exact Calm.refl _) | (with_reducible assumption) | (with_reducible refine Calm.drew ?_) | (with_reducible refine Calm.alloc ?_ _) | (with_reducible refine Calm.trans ?_ (by assumption))))
  · rcases three s deadC with ⟨g0, g1⟩ | ⟨g0, g1, g2⟩ | ⟨g0, g1, g2⟩
    all_goals
      have e1 : ofG s = if hitS s deadC then cutS s deadC else ⟨#[]⟩ := by unfold ofG; rw [h0]; rfl
      have e2 : ofOk s = hitS s deadC := by unfold ofOk; rw [h0]; rfl
      rw [e1, e2, g0]
      clear e1 e2 h0 g0
      go_enter Tryz.func154, Tryz.ntmps154
      go_wp2
      refine wp_loop_rounds 3 ?_
      rw [rounds_succ]
      go_wp2_with (first | (go_at_call 191; refine (Cut_any _ retryC _).mono ?_; rintro e w' ⟨rfl, rfl⟩) | (go_at_call 192; refine (Group_any _ _).mono ?_; rintro e w' ⟨rfl, hb⟩; obtain ⟨hbc, hbf⟩ := bcell hb))
      rw [rounds_succ]
      go_wp2_with (first | (go_at_call 191; refine (Cut_any _ deadC _).mono ?_; rintro e w' ⟨rfl, rfl⟩) | (go_at_call 192; refine (Group_any _ _).mono ?_; rintro e w' ⟨rfl, hb⟩))
      try (rw [rounds_succ]; go_wp2)
      go_ret2
      refine ⟨rfl, ?_⟩
      (repeat' (first | (with_reducible exact Calm.refl _) | (with_reducible assumption) | (with_reducible refine Calm.drew ?_) | (with_reducible refine Calm.alloc ?_ _) | (with_reducible refine Calm.trans ?_ (by assumption))))
  · have e1 : ofG s = cutS s retryC := by unfold ofG; rw [h0]; rfl
    have e2 : ofOk s = true := by unfold ofOk; rw [h0]; rfl
    rw [e1, e2]
    clear e1 e2 h0
    go_enter Tryz.func154, Tryz.ntmps154
    go_wp2
    refine wp_loop_rounds 3 ?_
    rw [rounds_succ]
    go_wp2_with (first | (go_at_call 191; refine (Cut_any _ retryC _).mono ?_; rintro e w' ⟨rfl, rfl⟩) | (go_at_call 192; refine (Group_any _ _).mono ?_; rintro e w' ⟨rfl, hb⟩))
    go_ret2
    refine ⟨rfl, ?_⟩
    (repeat' (first | (with_reducible exact Calm.refl _) | (with_reducible assumption) | (with_reducible refine Calm.drew ?_) | (with_reducible refine Calm.alloc ?_ _) | (with_reducible refine Calm.trans ?_ (by assumption))))



end Go.Proofs.YtdepejneliacpaaGreatDoor.nm

/- The contracts of package name and of reveilleref03, continued: hashes, keys, tags, topics. -/
namespace Go.Proofs.YtdepejneliacpaaGreatDoor.nm
open Go.ChangeShapes Go.WideShapes Go.ChangeAt Go.RowKit

def hashFrom (h : Nat) (l : List UInt8) : Nat := l.foldl (fun h c => (31 * h + c.toNat) % 4294967296) h
def hashL (l : List UInt8) : Nat := hashFrom 0 l
def flatS (l : List ByteArray) : List UInt8 := (l.map (·.data.toList)).flatten
theorem hashFrom_lt (h : Nat) (hh : h < 4294967296) (l : List UInt8) : hashFrom h l < 4294967296 := by
  induction l generalizing h with
  | nil => exact hh
  | cons c l ih => exact ih _ (Nat.mod_lt _ (by omega))
theorem hashFrom_append (h : Nat) (a b : List UInt8) : hashFrom h (a ++ b) = hashFrom (hashFrom h a) b := by simp [hashFrom]
theorem hashFrom_snoc (h : Nat) (s : ByteArray) (k : Nat) (hk : k < s.size) : hashFrom h (s.data.toList.take (k + 1)) = (31 * hashFrom h (s.data.toList.take k) + (s[k]).toNat) % 4294967296 := by
  rw [List.take_succ_eq_append_getElem (by simpa using hk), hashFrom_append]; rfl
theorem flatS_snoc (l : List ByteArray) (k : Nat) (hk : k < l.length) : flatS (l.take (k + 1)) = flatS (l.take k) ++ (l.getD k ByteArray.empty).data.toList := by
  rw [List.take_succ_eq_append_getElem hk]; unfold flatS; rw [List.map_append, List.flatten_append]; simp [List.getD_eq_getElem?_getD, List.getElem?_eq_getElem hk]

end Go.Proofs.YtdepejneliacpaaGreatDoor.nm

/- The contracts of package name and of reveilleref03, continued. -/
namespace Go.Proofs.YtdepejneliacpaaGreatDoor.nm
open Go.ChangeShapes Go.WideShapes Go.ChangeAt Go.RowKit

def topicB (s : ByteArray) : Bool := ofOk s || plainB s
def tagB (s : ByteArray) : Bool := decide (s.size = 0) || plainB s
def keyN (c : Nat) : Bool := decide (33 ≤ c) && decide (c ≤ 126)
def keyL (l : List UInt8) : Bool := decide (1 ≤ l.length) && decide (l.length ≤ 16) && l.all (fun c => keyN c.toNat)
def keyB (s : ByteArray) : Bool := keyL s.data.toList

theorem isEmpty_iff (s : ByteArray) : s.toList.isEmpty = decide (s.size = 0) := by
  rw [Lib.toList_data, Bool.eq_iff_iff, List.isEmpty_iff, decide_eq_true_iff, ← size_toList, List.length_eq_zero_iff]

set_option maxHeartbeats 1000000 in
theorem Topic_any (s : ByteArray) (w : World) :
    Calls Tryz.prog 108 #[.string s] w fun e w' => e = .returned (.bool (topicB s)) ∧ Calm w w' := by
  cases hp : ofOk s
  · have hg : topicB s = plainB s := by unfold topicB; rw [hp]; rfl
    rw [hg]
    clear hg
    go_enter Tryz.func108, Tryz.ntmps108
    go_wp2_with (first | (go_at_call 154; refine (Of_any _ _).mono ?_; rintro e w' ⟨rfl, hb⟩) | (go_at_call 155; refine (Plain_any _ _).mono ?_; rintro e w' ⟨rfl, hb⟩))
    go_ret
    refine ⟨ret_bool (by simp), ?_⟩
    (repeat' (first | (with_reducible exact Calm.refl _) | (with_reducible assumption) | (with_reducible refine Calm.drew ?_) | (with_reducible refine Calm.alloc ?_ _) | (with_reducible refine Calm.trans ?_ (by assumption))))
  · have hg : topicB s = true := by unfold topicB; rw [hp]; rfl
    rw [hg]
    clear hg
    go_enter Tryz.func108, Tryz.ntmps108
    go_wp2_with (first | (go_at_call 154; refine (Of_any _ _).mono ?_; rintro e w' ⟨rfl, hb⟩) | (go_at_call 155; refine (Plain_any _ _).mono ?_; rintro e w' ⟨rfl, hb⟩))
    go_ret
    refine ⟨ret_bool (by simp), ?_⟩
    (repeat' (first | (with_reducible exact Calm.refl _) | (with_reducible assumption) | (with_reducible refine Calm.drew ?_) | (with_reducible refine Calm.alloc ?_ _) | (with_reducible refine Calm.trans ?_ (by assumption))))

set_option maxHeartbeats 1000000 in
theorem Tag_any (s : ByteArray) (w : World) :
    Calls Tryz.prog 251 #[.string s] w fun e w' => e = .returned (.bool (tagB s)) ∧ Calm w w' := by
  have hi := isEmpty_iff s
  by_cases h0 : s.size = 0
  · have hg : tagB s = true := by unfold tagB; simp [h0]
    have h1 : s.toList = [] := by rw [Lib.toList_data]; exact List.eq_nil_of_length_eq_zero (by simpa using h0)
    rw [hg]
    clear hg hi h0
    go_enter Tryz.func251, Tryz.ntmps251
    go_wp2_with (first | (go_at_call 155; refine (Plain_any _ _).mono ?_; rintro e w' ⟨rfl, hb⟩))
    go_ret
    refine ⟨ret_bool (by simp), ?_⟩
    (repeat' (first | (with_reducible exact Calm.refl _) | (with_reducible assumption) | (with_reducible refine Calm.drew ?_) | (with_reducible refine Calm.alloc ?_ _) | (with_reducible refine Calm.trans ?_ (by assumption))))
  · have hg : tagB s = plainB s := by unfold tagB; simp [h0]
    have h1 : s.toList.isEmpty = false := by rw [hi]; simp [h0]
    rw [hg]
    clear hg hi h0
    go_enter Tryz.func251, Tryz.ntmps251
    go_wp2_with (first | (go_at_call 155; refine (Plain_any _ _).mono ?_; rintro e w' ⟨rfl, hb⟩))
    go_ret
    refine ⟨ret_bool (by simp), ?_⟩
    (repeat' (first | (with_reducible exact Calm.refl _) | (with_reducible assumption) | (with_reducible refine Calm.drew ?_) | (with_reducible refine Calm.alloc ?_ _) | (with_reducible refine Calm.trans ?_ (by assumption))))

set_option maxHeartbeats 1000000 in
theorem Key_any (s : ByteArray) (w : World) (hs : s.size ≤ maxLen) :
    Calls Tryz.prog 253 #[.string s] w fun e w' => e = .returned (.bool (keyB s)) ∧ w = w' := by
  unfold maxLen at hs
  have hi := isEmpty_iff s
  by_cases h0 : s.size = 0
  · have hg : keyB s = false := by unfold keyB keyL; simp [h0]
    have h1 : s.toList = [] := by rw [Lib.toList_data]; exact List.eq_nil_of_length_eq_zero (by simpa using h0)
    rw [hg]
    clear hg hi h0
    go_enter Tryz.func253, Tryz.ntmps253
    go_wp2
    go_ret
    exact ⟨rfl, rfl⟩
  · have h1 : s.toList.isEmpty = false := by rw [hi]; simp [h0]
    clear hi
    by_cases h2 : 16 < s.size
    · have hg : keyB s = false := by unfold keyB keyL; simp; omega
      rw [hg]
      clear hg
      go_enter Tryz.func253, Tryz.ntmps253
      go_wp2
      go_ret
      exact ⟨rfl, rfl⟩
    · have hg := box (show keyB s = s.data.toList.all (fun c => keyN c.toNat) by unfold keyB keyL; simp; omega)
      go_enter Tryz.func253, Tryz.ntmps253
      go_wp2
      go_loop [13] (fun i => ∃ k : Nat, k ≤ s.size ∧ i = .int .i64 k ∧ (s.data.toList.take k).all (fun c => keyN c.toNat) = true) (fun i => s.size - (intOf i).toNat)
      case atStart => exact ⟨0, Nat.zero_le _, rfl, rfl⟩
      case round =>
        obtain ⟨k, hk, rfl, hall⟩ := hrel
        have Hall := box hall
        clear hall
        by_cases hlt : k < s.size
        · by_cases hb : 33 ≤ (s[k].toNat : Int) ∧ (s[k].toNat : Int) ≤ 126
          · have hn : keyN s[k].toNat = true := by simp [keyN]; omega
            have hs := box (all_snoc s k hlt (fun c => keyN c.toNat))
            obtain ⟨hb1, hb2⟩ := hb
            have Hn := box hn
            clear hn
            go_wp2
            go_round
            case rel => exact ⟨k + 1, by omega, by go_num, by rw [hs.out, Hall.out, Bool.true_and]; exact Hn.out⟩
            case measure => simp [intOf]; omega
          · have hn := box (all_no s k hlt (fun c => keyN c.toNat) (by simp [keyN]; omega))
            by_cases hb1 : (s[k].toNat : Int) < 33
            · go_wp2
              go_ret
              exact ⟨ret_bool (by rw [hg.out, hn.out]), rfl⟩
            · have hb2 : 126 < (s[k].toNat : Int) := by omega
              go_wp2
              go_ret
              exact ⟨ret_bool (by rw [hg.out, hn.out]), rfl⟩
        · have hn := box (all_take s k (by omega) (fun c => keyN c.toNat))
          go_wp2
          go_ret
          exact ⟨ret_bool (by rw [hg.out, ← hn.out, Hall.out]), rfl⟩

/-! ### package reveilleref03 -/
theorem rSign (c : UInt8) (h : (97 ≤ (c.toNat : Int) ∧ (c.toNat : Int) ≤ 122) ∨ (48 ≤ (c.toNat : Int) ∧ (c.toNat : Int) ≤ 57) ∨ (c.toNat : Int) = 45) : signB c = true := sign_true (by omega)
theorem rSign' (c : UInt8) (h : ¬ ((97 ≤ (c.toNat : Int) ∧ (c.toNat : Int) ≤ 122) ∨ (48 ≤ (c.toNat : Int) ∧ (c.toNat : Int) ≤ 57) ∨ (c.toNat : Int) = 45)) : signB c = false := sign_false (by omega)

set_option maxHeartbeats 1000000 in
theorem rPlain_any (s : ByteArray) (w : World) (hs : s.size ≤ maxLen) :
    Calls Tryz.prog 67 #[.string s] w fun e w' => e = .returned (.bool (plainB s)) ∧ w = w' := by
  unfold maxLen at hs
  go_enter Tryz.func67, Tryz.ntmps67
  go_wp2
  go_loop [3] (fun i => ∃ k : Nat, k ≤ s.size ∧ i = .int .i64 k ∧ (s.data.toList.take k).all signB = true) (fun i => s.size - (intOf i).toNat)
  case atStart => exact ⟨0, Nat.zero_le _, rfl, rfl⟩
  case round =>
    obtain ⟨k, hk, rfl, hall⟩ := hrel
    have Hall := box hall
    clear hall
    by_cases hlt : k < s.size
    · by_cases hc : (97 ≤ (s[k].toNat : Int) ∧ (s[k].toNat : Int) ≤ 122) ∨ (48 ≤ (s[k].toNat : Int) ∧ (s[k].toNat : Int) ≤ 57) ∨ (s[k].toNat : Int) = 45
      · have fin := box (show (s.data.toList.take (k + 1)).all signB = true by rw [all_snoc s k hlt signB, Hall.out, Bool.true_and]; exact rSign _ hc)
        rcases hc with ⟨c1, c2⟩ | ⟨c1, c2⟩ | c1
        · go_wp2
          go_round
          case rel => exact ⟨k + 1, by omega, by go_num, fin.out⟩
          case measure => simp [intOf]; omega
        · go_wp2
          go_round
          case rel => exact ⟨k + 1, by omega, by go_num, fin.out⟩
          case measure => simp [intOf]; omega
        · have c2 : ((s[k].toNat : Int) != 45) = false := by simp [c1]
          have C1 := box c1
          have c3 : (s[k].toNat : Int) ≤ 45 := by omega
          have c4 : 45 ≤ (s[k].toNat : Int) := by omega
          clear c1
          go_wp2
          go_round
          case rel => exact ⟨k + 1, by omega, by go_num, fin.out⟩
          case measure => simp [intOf]; omega
      · have fin := box (show plainB s = false by unfold plainB plainL; rw [all_no s k hlt signB (rSign' _ hc)]; simp)
        have c2 : ((s[k].toNat : Int) != 45) = true := by rw [bne_iff_ne]; omega
        go_wp2
        all_goals
          first
            | (go_ret; exact ⟨ret_bool (by rw [fin.out]), rfl⟩)
            | (exfalso; simp at *; omega)
    · have hn := box (all_take s k (by omega) signB)
      by_cases h1 : 1 ≤ (s.size : Int)
      · have hp := box (show plainB s = decide ((s.size : Int) ≤ 16) by unfold plainB plainL; rw [← hn.out, Hall.out, size_toList, Bool.and_true, decide_eq_true (by omega : 1 ≤ s.size), Bool.true_and]; exact decide_eq_decide.2 (by omega))
        go_wp2
        go_ret
        exact ⟨ret_bool (by rw [hp.out]), rfl⟩
      · have hp := box (plain_empty s (by omega))
        go_wp2
        go_ret
        exact ⟨ret_bool (by rw [hp.out]), rfl⟩

end Go.Proofs.YtdepejneliacpaaGreatDoor.nm

/- Layer 10, plain: entries' bytes; heads of queues' rows; what a queue is to hold. -/
namespace Go.Proofs.YtdepejneliacpaaGreatDoor.cq
open Go.ChangeShapes Go.WideShapes Go.ChangeAt Go.RowKit
open Go.Proofs.YtdepejneliacpaaGreatDoor.oc Go.Proofs.YtdepejneliacpaaGreatDoor.dk Go.Proofs.YtdepejneliacpaaGreatDoor.en Go.Proofs.YtdepejneliacpaaGreatDoor.sg

/-- An entry: where, how long, its tag's number, when it was born. -/
structure P4 where
  a : Int
  b : Int
  c : Int
  d : Int
def P4.nums (p : P4) : List (Nat × Int) := [(6, p.a), (2, p.b), (5, p.c), (7, p.d)]
def P4.ok (p : P4) : Bool := entOk p.nums
def P4.cells (p : P4) : Array Value := #[.int .i64 p.a, .int .i64 p.b, .int .i64 p.c, .int .i64 p.d]
def plcB (p : P4) : List UInt8 := entL p.nums
theorem plcB_length (p : P4) : (plcB p).length = 20 := by unfold plcB entL P4.nums; simp [low_length]
theorem put_ok {p : P4} (h : p.ok = true) : putB p.nums = ⟨(plcB p).toArray⟩ := by unfold putB; rw [if_pos (show entOk p.nums = true from h)]; rfl
theorem P4.ok_iff (p : P4) : p.ok = true ↔ (0 ≤ p.a ∧ p.a < 281474976710656) ∧ (0 ≤ p.b ∧ p.b < 65536) ∧ (0 ≤ p.c ∧ p.c < 1099511627776) ∧ 0 ≤ p.d ∧ p.d < 72057594037927936 := by
  unfold P4.ok P4.nums entOk fitsN
  simp only [List.all_cons, List.all_nil, Bool.and_true, Bool.and_eq_true, decide_eq_true_eq]
  constructor
  · rintro ⟨⟨h1, h2⟩, ⟨h3, h4⟩, ⟨h5, h6⟩, h7, h8⟩
    exact ⟨⟨h1, h2⟩, ⟨h3, h4⟩, ⟨h5, h6⟩, h7, h8⟩
  · rintro ⟨⟨h1, h2⟩, ⟨h3, h4⟩, ⟨h5, h6⟩, h7, h8⟩
    exact ⟨⟨h1, h2⟩, ⟨h3, h4⟩, ⟨h5, h6⟩, h7, h8⟩
theorem get4_plc {p : P4} (h : p.ok = true) : get4 ⟨(plcB p).toArray⟩ [6, 2, 5, 7] = ((p.a, p.b, p.c, p.d), true) := by
  have := rdAll_ent p.nums [] (by intro x hx; simp only [P4.nums, List.mem_cons, List.not_mem_nil, or_false] at hx; rcases hx with rfl | rfl | rfl | rfl <;> simp) h
  rw [List.append_nil] at this
  have h2 : rdAll ⟨⟨(plcB p).toArray⟩, 0⟩ [6, 2, 5, 7] = ([p.a, p.b, p.c, p.d], ⟨⟨#[]⟩, 0⟩) := this
  unfold get4
  rw [h2]
  rfl
def flat (l : List P4) : List UInt8 := l.flatMap plcB
theorem flat_length (l : List P4) : (flat l).length = 20 * l.length := by
  unfold flat
  induction l with
  | nil => rfl
  | cons x l ih => rw [List.flatMap_cons, List.length_append, plcB_length, ih, List.length_cons]; omega
theorem flat_snoc (l : List P4) (p : P4) : flat (l ++ [p]) = flat l ++ plcB p := by unfold flat; rw [List.flatMap_append]; simp
theorem flat_at (l : List P4) (i : Nat) (h : i < l.length) : ((flat l).drop (20 * i)).take 20 = plcB l[i] := flat_take plcB 20 plcB_length l i h

/-! ### Heads -/
abbrev qN : ByteArray := ⟨#[113, 45]⟩
abbrev dotN : ByteArray := ⟨#[46]⟩
abbrev dashN : ByteArray := ⟨#[45]⟩
def headQ (t : ByteArray) (n : Nat) : ByteArray := qN ++ t ++ dotN ++ (⟨#[UInt8.ofNat (48 + n)]⟩ : ByteArray) ++ dashN
theorem headQ_list (t : ByteArray) (n : Nat) : (headQ t n).data.toList = 113 :: 45 :: (t.data.toList ++ [46, UInt8.ofNat (48 + n), 45]) := by
  unfold headQ
  rw [append_toList, append_toList, append_toList, append_toList]
  simp
theorem headQ_size (t : ByteArray) (n : Nat) : (headQ t n).size = t.size + 5 := by
  rw [← size_toList, headQ_list]
  simp
theorem headQ_inj {t t' : ByteArray} {n n' : Nat} (hn : n < 3) (hn' : n' < 3) (h : headQ t n = headQ t' n') : t = t' ∧ n = n' := by
  have h1 := congrArg (fun x : ByteArray => x.data.toList) h
  simp only [headQ_list, List.cons.injEq, true_and] at h1
  have hl := congrArg List.length h1
  simp only [List.length_append, List.length_cons, List.length_nil, Nat.add_right_cancel_iff] at hl
  obtain ⟨e1, e2⟩ := List.append_inj h1 hl
  refine ⟨ba_ext e1, ?_⟩
  simp only [List.cons.injEq, and_true, true_and] at e2
  have e3 := congrArg UInt8.toNat e2
  rw [dig_toNat (by omega), dig_toNat (by omega)] at e3
  omega
theorem headQ_pre (t : ByteArray) (n : Nat) (k : Nat) : Lib.hasPrefix (nameB (headQ t n) k).data.toList qN.data.toList = true := by
  have : (nameB (headQ t n) k).data.toList = (headQ t n).data.toList ++ dL 8 k := rfl
  rw [this, headQ_list]
  rfl
theorem itoa_dig {n : Nat} (h : n < 3) : (⟨(Lib.itoa (n : Int)).toArray⟩ : ByteArray) = ⟨#[UInt8.ofNat (48 + n)]⟩ := by
  rw [Lib.itoa_nonneg]
  match n, h with
  | 0, _ => simp [Lib.decDigits]
  | 1, _ => simp [Lib.decDigits]
  | 2, _ => simp [Lib.decDigits]

/-! ### A queue -/
/-- A queue as the laws see it. -/
structure QS where
  t : ByteArray
  n : Nat
  base : Nat
  least : Nat
  l : List P4
def QS.next (q : QS) : Nat := q.base + q.l.length
/-- A queue's row. -/
structure Rowed (R : RowS) (q : QS) : Prop where
  head : R.head = headQ q.t q.n
  size : R.size = 200
  fin : R.fin = 20 * q.l.length
  low : q.base ≤ q.least
  high : q.least ≤ q.base + q.l.length
  start : R.start ≤ 20 * (q.least - q.base)
  tight : Tight R
  ok : ∀ p ∈ q.l, p.ok = true
  t : q.t.size ≤ 100
  n : q.n < 3
  base : q.base ≤ 1099511627776
  len : q.l.length ≤ 10000
def QS.bytes (q : QS) (s : Nat) : List UInt8 := (flat q.l).drop s
section
variable {D : DiskS} {R : RowS} {q : QS} {c m : Nat}
/-- An entry is read. -/
theorem Rowed.read (h : Rowed R q) (hH : Holds D R (q.bytes R.start)) (ha : Alive D) {i : Nat} (hi : i < q.l.length) (hs : R.start ≤ 20 * i) : readD D R ((20 * i : Nat) : Int) 20 = (⟨(plcB q.l[i]).toArray⟩, 0) := by
  have h1 := h.size
  have h2 := h.fin
  have := hH.read ha (20 * i) 20 hs (by omega) (by rw [h1]; omega)
  rw [show ((20 : Nat) : Int) = 20 from rfl] at this
  rw [this]
  unfold QS.bytes bA
  rw [List.drop_drop, show R.start + (20 * i - R.start) = 20 * i by omega, flat_at _ _ hi]
theorem Rowed.room (h : Rowed R q) (hk : RowOk R) : 20 ≤ R.room := by
  have h1 := hk.roomMod
  have h2 := h.size
  have h3 := h.fin
  rw [h2, h3] at h1
  omega
def QS.add (q : QS) (p : P4) : QS := { q with l := q.l ++ [p] }
theorem QS.add_bytes (q : QS) (p : P4) (s : Nat) (hs : s ≤ 20 * q.l.length) : (q.add p).bytes s = q.bytes s ++ plcB p := by
  show (flat (q.l ++ [p])).drop s = _
  rw [flat_snoc, List.drop_append_of_le_length (by rw [flat_length]; exact hs)]
  rfl
theorem Rowed.add {R' : RowS} (h : Rowed R q) {p : P4} (hp : p.ok = true) (h1 : R'.head = R.head) (h2 : R'.size = R.size) (h3 : R'.start = R.start) (h5 : R'.fin = R.fin + 20) (ht : Tight R') (hl : q.l.length < 10000) : Rowed R' (q.add p) := by
  have e : (q.add p).l.length = q.l.length + 1 := by show (q.l ++ [p]).length = _; simp
  refine ⟨h1.trans h.head, h2.trans h.size, by rw [e, h5, h.fin]; omega, h.low, by rw [e]; have := h.high; exact Nat.le_trans this (by show q.base + q.l.length ≤ q.base + (q.l.length + 1); omega), by rw [h3]; exact h.start, ht, fun x hx => ?_, h.t, h.n, h.base, by omega⟩
  rcases List.mem_append.1 (show x ∈ q.l ++ [p] from hx) with hx | hx
  · exact h.ok x hx
  · rw [List.mem_singleton] at hx; rw [hx]; exact hp
def QS.from_ (q : QS) (k : Nat) : QS := { q with least := k }
theorem Rowed.later (h : Rowed R q) {k : Nat} (h1 : q.least ≤ k) (h2 : k ≤ q.base + q.l.length) : Rowed R (q.from_ k) := by
  have h3 := h.low
  have h4 := h.start
  exact ⟨h.head, h.size, h.fin, Nat.le_trans h3 h1, h2, by show R.start ≤ 20 * (k - q.base); omega, h.tight, h.ok, h.t, h.n, h.base, h.len⟩
/-- The first segment goes. -/
theorem Rowed.rest (h : Rowed R q) (hk : RowOk R) (h2 : 2 ≤ R.cnt) (h3 : R.start + 200 ≤ 20 * (q.least - q.base)) : Rowed R.rest q := by
  have h1 := h.size
  refine ⟨h.head, h.size, h.fin, h.low, h.high, ?_, Tight.rest h2 h.tight, h.ok, h.t, h.n, h.base, h.len⟩
  show R.start + R.size ≤ _
  omega
theorem QS.rest_bytes (q : QS) (s : Nat) : (q.bytes s).drop 200 = q.bytes (s + 200) := by unfold QS.bytes; rw [List.drop_drop]
/-- How far something holds of entries from the least on. -/
def QS.far (q : QS) (f : P4 → Bool) : Nat := q.least + ((q.l.drop (q.least - q.base)).takeWhile f).length
theorem tw_lt {α : Type} (f : α → Bool) : ∀ (l : List α) (k : Nat), k ≤ (l.takeWhile f).length → (k < (l.takeWhile f).length ↔ ∃ h : k < l.length, f l[k] = true)
  | [], k, _ => by simp
  | x :: l, 0, _ => by
    cases hf : f x <;> simp [List.takeWhile_cons, hf]
  | x :: l, k + 1, h => by
    cases hf : f x with
    | false => rw [List.takeWhile_cons, hf] at h; simp at h
    | true =>
      simp only [List.takeWhile_cons, hf, if_true, List.length_cons] at h ⊢
      have := tw_lt f l k (by omega)
      simp only [Nat.add_lt_add_iff_right, List.getElem_cons_succ]
      exact this
theorem tw_le {α : Type} (f : α → Bool) (l : List α) : (l.takeWhile f).length ≤ l.length := (List.takeWhile_sublist f).length_le
theorem QS.far_le (h : Rowed R q) (f : P4 → Bool) : q.least ≤ q.far f ∧ q.far f ≤ q.base + q.l.length := by
  have h1 := tw_le f (q.l.drop (q.least - q.base))
  rw [List.length_drop] at h1
  have := h.low
  have := h.high
  unfold QS.far
  omega
/-- One goes on at a place just if it lies ahead of where it stands still. -/
theorem QS.far_iff (h : Rowed R q) (f : P4 → Bool) {k : Nat} (h1 : q.least ≤ k) (h2 : k ≤ q.far f) : k < q.far f ↔ ∃ hk : k - q.base < q.l.length, f q.l[k - q.base] = true := by
  have h3 := h.low
  unfold QS.far at h2 ⊢
  have := tw_lt f (q.l.drop (q.least - q.base)) (k - q.least) (by omega)
  rw [show k < q.least + ((q.l.drop (q.least - q.base)).takeWhile f).length ↔ k - q.least < ((q.l.drop (q.least - q.base)).takeWhile f).length by omega, this]
  simp only [List.length_drop, List.getElem_drop]
  have e : q.least - q.base + (k - q.least) = k - q.base := by omega
  constructor
  · rintro ⟨h4, h5⟩
    refine ⟨by omega, ?_⟩
    simp only [e] at h5
    exact h5
  · rintro ⟨h4, h5⟩
    refine ⟨by omega, ?_⟩
    simp only [e]
    exact h5
end
end Go.Proofs.YtdepejneliacpaaGreatDoor.cq

/- Layer 5's laws: calls as data; two rows on one disk. -/
namespace Go.Proofs.YtdepejneliacpaaGreatDoor.sg
open Go.ChangeShapes Go.WideShapes Go.ChangeAt Go.RowKit
open Go.Proofs.YtdepejneliacpaaGreatDoor.dk

structure Op5 where
  k : Int
  a : Int
  n : Int
  s : ByteArray
def encO5 (o : Op5) : List Value := [.int .i64 o.k, .int .i64 o.a, .int .i64 o.n, .string o.s]
def Op5R : Reads Op5 := fun _ cs o => cs = encO5 o ∧ o.s.size ≤ maxLen ∧ (-9223372036854775808 ≤ o.a ∧ o.a ≤ 9223372036854775807) ∧ -9223372036854775808 ≤ o.n ∧ o.n ≤ 9223372036854775807
theorem Op5R.lasts : Op5R.Lasts := fun _ _ _ _ h _ => h
theorem RowsAt.ops5 {w : World} {v : Value} {l : List Op5} (h : RowsAt Op5R 4 w v l) : ∃ a cap, v = .slice a l.length cap ∧ l.length ≤ maxLen ∧ ∀ i (hi : i < l.length), ∃ b off, a = some ⟨b, off, none⟩ ∧ b < w.heap.size ∧
    w.cell? ⟨b, off + i * 4, none⟩ = some (.int .i64 l[i].k) ∧ w.cell? ⟨b, off + i * 4 + 1, none⟩ = some (.int .i64 l[i].a) ∧ w.cell? ⟨b, off + i * 4 + 2, none⟩ = some (.int .i64 l[i].n) ∧ w.cell? ⟨b, off + i * 4 + 3, none⟩ = some (.string l[i].s) ∧ l[i].s.size ≤ maxLen ∧ (-9223372036854775808 ≤ l[i].a ∧ l[i].a ≤ 9223372036854775807) ∧ -9223372036854775808 ≤ l[i].n ∧ l[i].n ≤ 9223372036854775807 := by
  obtain ⟨a, cap, rfl, h2, h3, h4⟩ := h
  refine ⟨a, cap, rfl, by omega, fun i hi => ?_⟩
  obtain ⟨b, off, cs, e, hb, hl, hcell, hr, hm⟩ := h4 i hi
  subst hr
  exact ⟨b, off, e, hb, hcell 0 (by decide), hcell 1 (by decide), hcell 2 (by decide), hcell 3 (by decide), hm⟩
section
variable {W w w' : World} {p ra rb k c m k' m' : Nat} {Ra Rb Ra' : RowS} {va vb v' : Value} {D D' : DiskS} {F F' : Nat → Prop} {ba bb ba' : List UInt8}
/-- Two rows on one disk. -/
structure Two (W : World) (p ra rb k c m : Nat) (D : DiskS) (Ra Rb : RowS) (ba bb : List UInt8) (F : Nat → Prop) (va vb : Value) (w : World) : Prop where
  a : Lw W ra p k c m D Ra ba F va w
  b : Lw W rb p k c m D Rb bb F vb w
  ne : ra ≠ rb
  vne : ∀ g, va.ownBlock = some g → vb.ownBlock ≠ some g
  heads : Ra.head ≠ Rb.head
theorem Two.swap (h : Two W p ra rb k c m D Ra Rb ba bb F va vb w) : Two W p rb ra k c m D Rb Ra bb ba F vb va w := ⟨h.b, h.a, h.ne.symm, fun g e e2 => h.vne g e2 e, h.heads.symm⟩
theorem Two.calm (h : Two W p ra rb k c m D Ra Rb ba bb F va vb w) (hc : Calm w w') : Two W p ra rb k c m D Ra Rb ba bb F va vb w' := ⟨h.a.calm hc, h.b.calm hc, h.ne, h.vne, h.heads⟩
theorem row_row {r1 r2 : Nat} {R1 R2 : RowS} {v1 v2 : Value} (h1 : RowAt w r1 p R1 v1) (h2 : RowAt w r2 p R2 v2) : v1.ownBlock ≠ some r2 := fun e => by
  obtain ⟨cur, hc⟩ := own_row h1.row e
  rw [h2.at_] at hc; simp only [Option.some.injEq, Obj.cells.injEq] at hc; exact absurd hc.2.1 (by decide)
/-- A call on one leaves the other. -/
theorem Two.next (h : Two W p ra rb k c m D Ra Rb ba bb F va vb w) (hx : LwNext W ra p k' c m' D' Ra' ba' w F va D w') (hh : Ra'.head = Ra.head) :
    ∃ F' va', Two W p ra rb k' c m' D' Ra' Rb ba' bb F' va' vb w' := by
  obtain ⟨F', va', hL, hT, hO⟩ := hx
  have hne : Rb.head ≠ Ra'.head := by rw [hh]; exact h.heads.symm
  have hrow : RowAt w' rb p Rb vb := h.b.seg.row.keep hT.keeps (fun e => by
    rcases e with e | e | e
    · exact row_apart h.b.seg.disk h.b.seg.row.at_ e
    · exact h.ne e.symm
    · exact row_row h.a.seg.row h.b.seg.row e) (fun g hg e => by
    rcases e with e | e | e
    · exact places_apart h.b.seg.disk h.b.seg.row hg e
    · exact row_row h.b.seg.row h.a.seg.row (e ▸ hg)
    · exact h.vne g e hg)
  refine ⟨F', va', hL, ⟨⟨hL.seg.disk, hrow, h.b.seg.tab, hL.seg.calm, hL.seg.fW, h.b.seg.rW, h.b.seg.vW⟩, h.b.holds.other hO hne, hL.able⟩, h.ne, fun g hg e => ?_, by rw [hh]; exact h.heads⟩
  rcases hT.row g hg with h1 | h1
  · exact h.vne g h1 e
  · have := (h.b.seg.row.row.lt g e).2; omega
/-- One is opened anew. -/
theorem Two.anew (h : Two W p ra rb k c m D Ra Rb ba bb F va vb w) {r : Nat} {Rn : RowS} (hr : w.heap.size ≤ r) (hL : Lw W r p k c m D Rn bb F' v' w') (hv : ∀ g, v'.ownBlock = some g → w.heap.size ≤ g) (hs : Step F w F' w') (hh : Rn.head = Rb.head) :
    Two W p ra r k c m D Ra Rn ba bb F' va v' w' := by
  have hrow := h.a.seg.row.step h.a.seg.disk hs
  refine ⟨⟨⟨hL.seg.disk, hrow, h.a.seg.tab, hL.seg.calm, hL.seg.fW, h.a.seg.rW, h.a.seg.vW⟩, h.a.holds, h.a.able⟩, hL, fun e => ?_, fun g hg e => ?_, by rw [hh]; exact h.heads⟩
  · have := heap_lt h.a.seg.row.at_; omega
  · have := (h.a.seg.row.row.lt g hg).2; have := hv g e; omega
end
end Go.Proofs.YtdepejneliacpaaGreatDoor.sg
