/- Small lemmas for regions that draw their order and only read. -/
import Derived.Test.YtofffmnkoelifaaDoorRows
import Derived.WalkKit
import Derived.ProofKit
import Derived.OpenShut
import Derived.Handy
import Derived.Deep.LoopGhost
import Derived.Lib.Hide
import Derived.Lib.Strings
import Derived.SizedLaws
import Derived.Deep.Slices
import Derived.Shelf.SlIter.Nil
import Derived.Ground.GgzProg
import Derived.Shelf.SortM.Plain
import Derived.Shelf.SortM.SortNone
import Derived.Ground.SlgmProg
import Derived.Test.YtofffmnkoelifaaDoorProg
import Derived.Shelf.Strings.Builder1
import Derived.Shelf.Strings.Builder2
import Derived.Shelf.Strings.OnBuilder
import Derived.Shelf.Small.Bits
import Derived.Shelf.Strings.BuilderF
import Derived.Shelf.Strings.BuilderK
import Derived.Shelf.Utf8.RuneCount
import Derived.Shelf.Strings.Builder2Cap
import Derived.Shelf.Strconv.Itoa0
import Derived.Shelf.Strings.Search1
import Derived.Shelf.Strings.Search2
import Derived.Shelf.Strings.Search3
import Derived.Shelf.Strings.Count
import Derived.Shelf.LaysM
import Derived.Shelf.Strings.Shaped
import Derived.Shelf.Sort.Plain
import Derived.Shelf.GgClosure.StringsIndexFunc
import Derived.Ground.GgwProg
import Derived.Shelf.GgClosure.StringsIndexFuncTop
import Derived.Shelf.GgClosure.StringsRunes
import Derived.Shelf.Strings.Split
import Derived.Shelf.Strings.SplitShaped
import Derived.Shelf.Unicode.Decode
import Derived.Shelf.Strings.RuneCount
import Derived.Shelf.Strings.Explode
import Derived.Shelf.Unicode.DecodeSlow
import Derived.Shelf.Unicode.DecodeAny
import Derived.Shelf.Strings.BuilderCap
import Derived.Ground.Names2Prog
import Derived.Shelf.Slices.Clone
import Derived.Shelf.Slices.CompactS
import Derived.Shelf.Slices.Cells
import Derived.Shelf.Slices.In.SortNone
import Derived.Ground.SlgnProg
import Derived.Shelf.SlicesE.Compact
import Derived.Shelf.SlicesE.Clone
import Derived.Ground.SlgfProg
import Derived.Shelf.SlicesE.IndexFunc
import Derived.RangeFuncBox
import Derived.RangeFuncLeaves
import Derived.Shelf.Abstract
import Derived.OwnWalkIn
import Derived.TacticsInMore
import Derived.LoopNIn
import Derived.LoopIn
import Derived.Maps.AppendAt
import Derived.Lib.SlicesCompact
import Derived.Deep.QuietTactic
import Derived.BigQuiet
import Derived.Test.YtofffmnkoelifaaDoorPk6
namespace Go.Proofs.YtofffmnkoelifaaDoor
open Go.ChangeShapes Go.WideShapes Go.ChangeAt Go.RowKit
theorem Calm.drewN {a w : World} (h : Calm a w) (n : Nat) : Calm a (w.drewN n) := ⟨h.os, h.tape, h.output, h.size, h.block⟩
end Go.Proofs.YtofffmnkoelifaaDoor

/- The contracts of package name and of reveilleref03. Strings are of at most 2^62 bytes where a bound is wanted. -/
namespace Go.Proofs.YtofffmnkoelifaaDoor.nm
open Go.ChangeShapes Go.WideShapes Go.ChangeAt Go.RowKit

def signN (c : Nat) : Bool := (decide (97 ≤ c) && decide (c ≤ 122)) || (decide (48 ≤ c) && decide (c ≤ 57)) || decide (c = 45)
def signB (c : UInt8) : Bool := signN c.toNat
def plainL (l : List UInt8) : Bool := decide (1 ≤ l.length) && decide (l.length ≤ 16) && l.all signB
def plainB (s : ByteArray) : Bool := plainL s.data.toList
def groupL (l : List UInt8) : Bool := plainL l && decide (l.length ≤ 8)
def groupB (s : ByteArray) : Bool := groupL s.data.toList

theorem sign_true {c : Nat} (h : (97 ≤ c ∧ c ≤ 122) ∨ (48 ≤ c ∧ c ≤ 57) ∨ c = 45) : signN c = true := by
  simp [signN]; omega
theorem sign_false {c : Nat} (h : ¬ ((97 ≤ c ∧ c ≤ 122) ∨ (48 ≤ c ∧ c ≤ 57) ∨ c = 45)) : signN c = false := by
  simp [signN]; omega

set_option maxHeartbeats 1000000 in
theorem sign_any (r : Nat) (w : World) :
    Calls Tryd.prog 26 #[.int .i32 (r : Int)] w fun e w' => e = .returned (.bool (signN r)) ∧ w = w' := by
  go_enter Tryd.func26, Tryd.ntmps26
  go_wp2
  all_goals
    go_ret
    refine ⟨ret_bool ?_, rfl⟩
    by_cases hz : (r : Int) = 45 <;> first
      | (rw [sign_true (by omega)]; done)
      | (rw [sign_false (by omega)]; done)
      | (rw [sign_true (by omega)]; simp [hz]; done)
      | (rw [sign_false (by omega)]; simp [hz]; done)
      | (rw [sign_true (by omega)]; simp [hz]; omega)
      | (rw [sign_false (by omega)]; simp [hz]; omega)

theorem notsign_any (r : Nat) (w : World) :
    Calls Tryd.prog 25 #[.int .i32 (r : Int)] w fun e w' => e = .returned (.bool (!signN r)) ∧ w = w' := by
  go_enter Tryd.func25, Tryd.ntmps25
  go_wp2_with (go_at_call 26; refine (sign_any _ _).mono ?_; rintro e w' ⟨rfl, rfl⟩)
  go_ret
  exact ⟨rfl, rfl⟩

theorem notsign_at (w : World) : PredAt Tryd.prog 25 #[] encR (fun r => !signN r) w := by
  intro W r _
  exact (notsign_any r W).mono fun e w' ⟨he, hw⟩ => ⟨he, 0, hw ▸ rfl⟩

/-! ### A text has no rune that is no sign just if it has no byte that is none -/
theorem decode_high (s : ByteArray) (i : Nat) (h : 128 ≤ (s.get! i).toNat) : 128 ≤ (Utf8.decode s i).1 := by
  rw [Lib.decode_at]
  unfold Lib.decodeN
  repeat' split
  all_goals first | omega | (simp only []; omega)
theorem get!_eq (s : ByteArray) (i : Nat) (h : i < s.size) : s.get! i = s[i] := by
  show s.data[i]! = _
  rw [getElem!_pos s.data i h]; rfl
theorem idx_sign (s : ByteArray) : ∀ (f pos : Nat), s.size ≤ pos + f → decide (Lib.idxFuncFrom (fun r => !signN r) true s f pos < 0) = (s.data.toList.drop pos).all signB
  | 0, pos, h => by
    have e : s.data.toList.drop pos = [] := List.drop_eq_nil_of_le (by simpa using h)
    simp [Lib.idxFuncFrom, e]
  | f + 1, pos, h => by
    unfold Lib.idxFuncFrom
    by_cases hp : pos < s.size
    · rw [if_pos hp]
      have hd : s.data.toList.drop pos = s[pos] :: s.data.toList.drop (pos + 1) := by
        rw [List.drop_eq_getElem_cons (by simpa using hp)]; rfl
      rw [hd, List.all_cons]
      by_cases hb : (s[pos]).toNat < 128
      · rw [decode_ascii s pos hp hb]
        by_cases hs : signB s[pos] = true
        · have hs' : signN s[pos].toNat = true := hs
          simp only [hs', hs, Bool.true_and]
          simpa using idx_sign s f (pos + 1) (by omega)
        · have hs1 : signB s[pos] = false := by simpa using hs
          have hs' : signN s[pos].toNat = false := hs1
          simp only [hs', hs1]
          simp
      · have h1 := decode_high s pos (by rw [get!_eq s pos hp]; omega)
        have h2 : signN (Utf8.decode s pos).1 = false := sign_false (by omega)
        have h3 : signB s[pos] = false := sign_false (by omega)
        simp only [h2, h3]
        simp
    · rw [if_neg hp]
      have e : s.data.toList.drop pos = [] := List.drop_eq_nil_of_le (by simp; omega)
      simp [e]
theorem idx_all (s : ByteArray) : decide (Lib.idxFunc (fun r => !signN r) true s < 0) = s.data.toList.all signB := by
  have := idx_sign s s.size 0 (by omega)
  rw [List.drop_zero] at this
  exact this

theorem plain_empty (s : ByteArray) (h : s.size = 0) : plainB s = false := by simp [plainB, plainL, h]
theorem plain_long (s : ByteArray) (h : 16 < s.size) : plainB s = false := by simp [plainB, plainL]; omega
theorem plain_mid (s : ByteArray) (h : 1 ≤ s.size) (h2 : s.size ≤ 16) : plainB s = s.data.toList.all signB := by
  simp [plainB, plainL, h2]; omega

theorem Plain_any (s : ByteArray) (w : World) :
    Calls Tryd.prog 13 #[.string s] w fun e w' => e = .returned (.bool (plainB s)) ∧ Calm w w' := by
  have hc : ∀ W, Calls Tryd.prog 24 #[.string s, .func (.func 25) #[] #[]] W fun e w' => e = .returned (.int .i64 (Lib.idxFunc (fun r => !signN r) true s)) ∧ Below W.heap.size W w' :=
    fun W => Tryd.strings_IndexFunc 25 #[] (enters_of Tryd.func25 (by kernel_rfl) rfl) _ s W (notsign_at W)
  have hi := idx_all s
  obtain ⟨I, hI⟩ : ∃ I, Lib.idxFunc (fun r => !signN r) true s = I := ⟨_, rfl⟩
  rw [hI] at hi
  simp only [hI] at hc
  have Hc := box hc
  clear hc
  by_cases h0 : s.size = 0
  · have : s.toList = [] := by rw [Lib.toList_data]; exact List.eq_nil_of_length_eq_zero (by simpa using h0)
    rw [plain_empty s h0]
    go_enter Tryd.func13, Tryd.ntmps13
    go_wp2
    go_ret
    exact ⟨ret_bool (by simp), Calm.refl _⟩
  · have h1 : (s.toList).isEmpty = false := by
      rw [Lib.toList_data, List.isEmpty_eq_false_iff]; intro h; apply h0; simpa using congrArg List.length h
    by_cases h2 : s.size ≤ 16
    · rw [plain_mid s (by omega) h2, ← hi]
      clear hI hi
      go_enter Tryd.func13, Tryd.ntmps13
      go_wp2_with (go_at_call 24; refine (Hc.out _).mono ?_; rintro e w' ⟨rfl, hb⟩)
      go_ret
      exact ⟨ret_bool (by simp), by assumption⟩
    · rw [plain_long s (by omega)]
      clear hI hi
      go_enter Tryd.func13, Tryd.ntmps13
      go_wp2_with (go_at_call 24; refine (Hc.out _).mono ?_; rintro e w' ⟨rfl, hb⟩)
      go_ret
      exact ⟨ret_bool (by simp), Calm.refl _⟩

def ownS (h g : ByteArray) : ByteArray := if groupB g then h ++ g else ⟨#[]⟩
abbrev retryC : ByteArray := ⟨#[37, 114, 101, 116, 114, 121, 37]⟩
abbrev deadC : ByteArray := ⟨#[37, 100, 101, 97, 100, 37]⟩

def hasS (s h : ByteArray) : Bool := Lib.hasPrefix s.data.toList h.data.toList
def cutS (s h : ByteArray) : ByteArray := ⟨(Lib.trimPrefix s.data.toList h.data.toList).toArray⟩
def hitS (s h : ByteArray) : Bool := hasS s h && groupB (cutS s h)
def ofG (s : ByteArray) : ByteArray := if hitS s retryC then cutS s retryC else if hitS s deadC then cutS s deadC else ⟨#[]⟩
def ofOk (s : ByteArray) : Bool := hitS s retryC || hitS s deadC
theorem three (s h : ByteArray) : (hitS s h = false ∧ hasS s h = false) ∨ (hitS s h = false ∧ hasS s h = true ∧ groupB (cutS s h) = false) ∨ (hitS s h = true ∧ hasS s h = true ∧ groupB (cutS s h) = true) := by
  unfold hitS
  cases hasS s h <;> cases groupB (cutS s h) <;> simp
end Go.Proofs.YtofffmnkoelifaaDoor.nm

/- The contracts of package name and of reveilleref03, continued: hashes, keys, tags, topics. -/
namespace Go.Proofs.YtofffmnkoelifaaDoor.nm
open Go.ChangeShapes Go.WideShapes Go.ChangeAt Go.RowKit

def hashFrom (h : Nat) (l : List UInt8) : Nat := l.foldl (fun h c => (31 * h + c.toNat) % 4294967296) h
def hashL (l : List UInt8) : Nat := hashFrom 0 l
def flatS (l : List ByteArray) : List UInt8 := (l.map (·.data.toList)).flatten
theorem hashFrom_lt (h : Nat) (hh : h < 4294967296) (l : List UInt8) : hashFrom h l < 4294967296 := by
  induction l generalizing h with
  | nil => exact hh
  | cons c l ih => exact ih _ (Nat.mod_lt _ (by omega))
theorem hashFrom_append (h : Nat) (a b : List UInt8) : hashFrom h (a ++ b) = hashFrom (hashFrom h a) b := by simp [hashFrom]
theorem hashFrom_snoc (h : Nat) (s : ByteArray) (k : Nat) (hk : k < s.size) : hashFrom h (s.data.toList.take (k + 1)) = (31 * hashFrom h (s.data.toList.take k) + (s[k]).toNat) % 4294967296 := by
  rw [List.take_succ_eq_append_getElem (by simpa using hk), hashFrom_append]; rfl
theorem flatS_snoc (l : List ByteArray) (k : Nat) (hk : k < l.length) : flatS (l.take (k + 1)) = flatS (l.take k) ++ (l.getD k ByteArray.empty).data.toList := by
  rw [List.take_succ_eq_append_getElem hk]; unfold flatS; rw [List.map_append, List.flatten_append]; simp [List.getD_eq_getElem?_getD, List.getElem?_eq_getElem hk]

set_option maxHeartbeats 1000000 in
theorem Hash_any (v : Value) (l : List ByteArray) (w : World) (hv : StrsAt w v l) (hl : l.length ≤ 4294967296) (hs : ∀ s ∈ l, s.size ≤ maxLen) :
    Calls Tryd.prog 21 #[v] w fun e w' => e = .returned (.int .i64 (hashL (flatS l))) ∧ w = w' := by
  unfold maxLen at hs
  rcases hv with ⟨rfl, a, cap, rfl⟩ | ⟨b, off, cap, rfl, hc⟩
  · clear hs hl
    go_enter Tryd.func21, Tryd.ntmps21
    go_wp2
    refine wp_loop_rounds 1 ?_
    rw [rounds_succ]
    go_wp2
    go_ret
    exact ⟨rfl, rfl⟩
  · have Hs := box hs
    have Hc := box hc
    clear hs hc
    go_enter Tryd.func21, Tryd.ntmps21
    go_wp2
    go_loop [9, 3] (fun i h => ∃ k : Nat, k ≤ l.length ∧ i = .int .i64 k ∧ h = .int .u32 (hashL (flatS (l.take k)))) (fun i _ => l.length - (intOf i).toNat)
    case atStart => exact ⟨0, Nat.zero_le _, rfl, rfl⟩
    case round =>
      obtain ⟨k, hk, rfl, rfl⟩ := hrel
      have hb := hashFrom_lt 0 (by omega) (flatS (l.take k))
      by_cases hlt : k < l.length
      · have hcell := Hc.out k hlt
        have hsz : (l.getD k ByteArray.empty).size ≤ 9223372036854775807 := Hs.out _ (by rw [List.getD_eq_getElem?_getD, List.getElem?_eq_getElem hlt]; exact List.getElem_mem _)
        obtain ⟨s, hs⟩ : ∃ s, l.getD k ByteArray.empty = s := ⟨_, rfl⟩
        have hfl := flatS_snoc l k hlt
        rw [hs] at hcell hsz hfl
        have Hfl := box hfl
        clear hfl hs
        obtain ⟨h0, hh⟩ : ∃ h0, hashL (flatS (l.take k)) = h0 := ⟨_, rfl⟩
        have hb' : h0 < 4294967296 := hh ▸ hb
        rw [hh]
        have Hh := box hh
        clear hh hb
        go_wp2
        go_loop [15, 3] (fun i h => ∃ j : Nat, j ≤ s.size ∧ i = .int .i64 j ∧ h = .int .u32 (hashFrom h0 (s.data.toList.take j))) (fun i _ => s.size - (intOf i).toNat)
        case atStart => exact ⟨0, Nat.zero_le _, rfl, rfl⟩
        case round =>
          obtain ⟨j, hj, rfl, rfl⟩ := hrel
          have hb2 := hashFrom_lt h0 hb' (s.data.toList.take j)
          by_cases hjl : j < s.size
          · have hsn := box (hashFrom_snoc h0 s j hjl)
            obtain ⟨h1, hh1⟩ : ∃ h1, hashFrom h0 (s.data.toList.take j) = h1 := ⟨_, rfl⟩
            rw [hh1] at hb2 hsn ⊢
            have Hh1 := box hh1
            clear hh1
            go_wp2
            go_round
            case rel => 
              refine ⟨j + 1, by omega, by go_num, ?_⟩
              rw [hsn.out]
              exact val_int (by omega)
            case measure => simp [intOf]; omega
          · obtain rfl : j = s.size := by omega
            rw [List.take_of_length_le (by simp)] at hb2 ⊢
            go_wp2
            go_round
            case rel =>
              refine ⟨k + 1, by omega, by go_num, ?_⟩
              rw [Hfl.out]; unfold hashL; rw [hashFrom_append, ← Hh.out]; rfl
            case measure => simp [intOf]; omega
      · obtain rfl : k = l.length := by omega
        rw [List.take_length] at hb ⊢
        have hb3 : hashL (flatS l) < 4294967296 := hb
        go_wp2
        go_ret
        exact ⟨ret_int (by omega), rfl⟩

end Go.Proofs.YtofffmnkoelifaaDoor.nm

/- The contracts of package name and of reveilleref03, continued. -/
namespace Go.Proofs.YtofffmnkoelifaaDoor.nm
open Go.ChangeShapes Go.WideShapes Go.ChangeAt Go.RowKit

def topicB (s : ByteArray) : Bool := ofOk s || plainB s
def tagB (s : ByteArray) : Bool := decide (s.size = 0) || plainB s
def keyN (c : Nat) : Bool := decide (33 ≤ c) && decide (c ≤ 126)
def keyL (l : List UInt8) : Bool := decide (1 ≤ l.length) && decide (l.length ≤ 16) && l.all (fun c => keyN c.toNat)
def keyB (s : ByteArray) : Bool := keyL s.data.toList

theorem isEmpty_iff (s : ByteArray) : s.toList.isEmpty = decide (s.size = 0) := by
  rw [Lib.toList_data, Bool.eq_iff_iff, List.isEmpty_iff, decide_eq_true_iff, ← size_toList, List.length_eq_zero_iff]

/-! ### package reveilleref03 -/
theorem rSign (c : UInt8) (h : (97 ≤ (c.toNat : Int) ∧ (c.toNat : Int) ≤ 122) ∨ (48 ≤ (c.toNat : Int) ∧ (c.toNat : Int) ≤ 57) ∨ (c.toNat : Int) = 45) : signB c = true := sign_true (by omega)
theorem rSign' (c : UInt8) (h : ¬ ((97 ≤ (c.toNat : Int) ∧ (c.toNat : Int) ≤ 122) ∨ (48 ≤ (c.toNat : Int) ∧ (c.toNat : Int) ≤ 57) ∨ (c.toNat : Int) = 45)) : signB c = false := sign_false (by omega)

end Go.Proofs.YtofffmnkoelifaaDoor.nm

/- The contracts of package name and of reveilleref03, continued. -/
namespace Go.Proofs.YtofffmnkoelifaaDoor.nm
open Go.ChangeShapes Go.WideShapes Go.ChangeAt Go.RowKit

end Go.Proofs.YtofffmnkoelifaaDoor.nm

/- The contracts of package name and of reveilleref03, continued. -/
namespace Go.Proofs.YtofffmnkoelifaaDoor.nm
open Go.ChangeShapes Go.WideShapes Go.ChangeAt Go.RowKit

theorem hasS_raw (s h : ByteArray) : hasS s h = (decide (h.size ≤ s.size) && ((s.extract 0 h.size).toList == h.toList)) := by
  unfold hasS; rw [Lib.hasPrefix_raw]
theorem hasS_size {s h : ByteArray} (g : hasS s h = true) : h.size ≤ s.size := by
  rw [hasS_raw] at g; simp at g; exact g.1
theorem cutS_hit {s h : ByteArray} (g : hasS s h = true) : cutS s h = s.extract h.size s.size := by
  rw [hasS_raw, Bool.and_eq_true] at g
  exact Lib.trimPrefix_hit s h (by simpa using g.1) g.2

theorem ofOk_iff (s : ByteArray) : ofOk s = !decide ((ofG s).size = 0) := by
  have hg : ∀ x : ByteArray, groupB x = true → x.size ≠ 0 := by
    intro x h hz
    unfold groupB groupL plainL at h
    simp [hz] at h
  unfold ofOk ofG
  cases h1 : hitS s retryC
  · cases h2 : hitS s deadC
    · rfl
    · have : groupB (cutS s deadC) = true := by unfold hitS at h2; simp at h2; exact h2.2
      simp [hg _ this]
  · have : groupB (cutS s retryC) = true := by unfold hitS at h1; simp at h1; exact h1.2
    simp [hg _ this]

/-! ### All -/
theorem allP_snoc (l : List ByteArray) (k : Nat) (hk : k < l.length) (p : ByteArray → Bool) : (l.take (k + 1)).all p = ((l.take k).all p && p (l.getD k ByteArray.empty)) := by
  rw [List.take_succ_eq_append_getElem hk, List.all_append]; simp [List.getD_eq_getElem?_getD, List.getElem?_eq_getElem hk]
theorem allP_no (l : List ByteArray) (k : Nat) (hk : k < l.length) (p : ByteArray → Bool) (h : p (l.getD k ByteArray.empty) = false) : l.all p = false := by
  rw [List.all_eq_false]
  exact ⟨l[k], List.getElem_mem _, by simpa [List.getD_eq_getElem?_getD, List.getElem?_eq_getElem hk] using h⟩

set_option maxHeartbeats 1000000 in
theorem AllPlain_any (v : Value) (l : List ByteArray) (w : World) (hv : StrsAt w v l) (hl : l.length ≤ 4294967296) :
    Calls Tryd.prog 12 #[.func (.func 13) #[] #[], v] w fun e w' => e = .returned (.bool (l.all plainB)) ∧ Calm w w' := by
  rcases hv with ⟨rfl, a, cap, rfl⟩ | ⟨b, off, cap, rfl, hc⟩
  · go_enter Tryd.func12, Tryd.ntmps12
    go_wp2
    refine wp_loop_rounds 1 ?_
    rw [rounds_succ]
    go_wp2
    go_ret
    exact ⟨rfl, Calm.refl _⟩
  · have hlt : ∀ k, k < l.length → b < w.heap.size := fun k hk => by
      have h1 := hc k hk
      unfold World.cell? at h1
      by_cases hb : b < w.heap.size
      · exact hb
      · simp [Array.getElem?_eq_none (Nat.le_of_not_lt hb)] at h1
    have Hc := box hc
    have Hlt := box hlt
    clear hc hlt
    go_enter Tryd.func12, Tryd.ntmps12
    go_wp2
    go_loopw [9] (fun i wr => ∃ k : Nat, k ≤ l.length ∧ i = .int .i64 k ∧ (l.take k).all plainB = true ∧ Calm w wr) (fun i _ => l.length - (intOf i).toNat)
    case atStart => exact ⟨0, Nat.zero_le _, rfl, rfl, Calm.refl _⟩
    case round =>
      obtain ⟨k, hk, rfl, hall, hcalm⟩ := hrel
      have Hall := box hall
      clear hall
      by_cases hlt : k < l.length
      · have hcell : wr.cell? ⟨b, off + k, none⟩ = some (.string (l.getD k ByteArray.empty)) := by
          rw [hcalm.cell (p := ⟨b, off + k, none⟩) (Hlt.out k hlt)]; exact Hc.out k hlt
        have hsn := box (allP_snoc l k hlt plainB)
        have hno := box (allP_no l k hlt plainB)
        obtain ⟨s, hs⟩ : ∃ s, l.getD k ByteArray.empty = s := ⟨_, rfl⟩
        rw [hs] at hcell hsn hno
        clear hs
        have hq : ∀ W, Sem.run Tryd.prog (binOp BinOp.eql 28 (Value.func (Fn.func 13) #[] #[]) Value.nilFunc) W = Result.ok (Value.bool false) W := fun W => by kernel_rfl
        cases hp : plainB s
        · go_wp2_with (first | (go_at_call 13; refine (Plain_any _ _).mono ?_; rintro e w' ⟨rfl, hb⟩))
          go_ret
          refine ⟨ret_bool (by rw [hno.out hp]), ?_⟩
          (repeat' (first | (with_reducible exact Calm.refl _) | (with_reducible assumption) | (with_reducible refine Calm.drew ?_) | (with_reducible refine Calm.alloc ?_ _) | (with_reducible refine Calm.trans ?_ (by assumption))))
        · go_wp2_with (first | (go_at_call 13; refine (Plain_any _ _).mono ?_; rintro e w' ⟨rfl, hb⟩))
          go_roundw
          case rel =>
            refine ⟨k + 1, by omega, by go_num, by rw [hsn.out, Hall.out, hp]; rfl, ?_⟩
            (repeat' (first | (with_reducible exact Calm.refl _) | (with_reducible assumption) | (with_reducible refine Calm.drew ?_) | (with_reducible refine Calm.alloc ?_ _) | (with_reducible refine Calm.trans ?_ (by assumption))))
          case measure => simp [intOf]; omega
      · obtain rfl : k = l.length := by omega
        have hfin := box (show l.all plainB = true by have := Hall.out; rwa [List.take_length] at this)
        go_wp2
        go_ret
        exact ⟨ret_bool (by rw [hfin.out]), by assumption⟩

theorem AllNil_any (v : Value) (l : List ByteArray) (w : World) (hv : StrsAt w v l) (hl : l.length ≤ 4294967296) :
    Calls Tryd.prog 12 #[.nilFunc, v] w fun e w' => e = .returned (.bool (decide (l = []))) ∧ w = w' := by
  rcases hv with ⟨rfl, a, cap, rfl⟩ | ⟨b, off, cap, rfl, hc⟩
  · go_enter Tryd.func12, Tryd.ntmps12
    go_wp2
    refine wp_loop_rounds 1 ?_
    rw [rounds_succ]
    go_wp2
    go_ret
    exact ⟨rfl, rfl⟩
  · by_cases h0 : l = []
    · subst h0
      clear hc
      go_enter Tryd.func12, Tryd.ntmps12
      go_wp2
      refine wp_loop_rounds 1 ?_
      rw [rounds_succ]
      go_wp2
      go_ret
      exact ⟨rfl, rfl⟩
    · have h1 : 0 < l.length := List.length_pos_iff.2 h0
      have hcell := hc 0 h1
      have hd := box (show decide (l = []) = false by simp [h0])
      clear hc h0
      rw [Nat.add_zero] at hcell
      have hq : ∀ W, Sem.run Tryd.prog (binOp BinOp.eql 28 Value.nilFunc Value.nilFunc) W = Result.ok (Value.bool true) W := fun W => by kernel_rfl
      go_enter Tryd.func12, Tryd.ntmps12
      go_wp2
      refine wp_loop_rounds 1 ?_
      rw [rounds_succ]
      go_wp2
      go_ret
      exact ⟨ret_bool (by rw [hd.out]), rfl⟩

end Go.Proofs.YtofffmnkoelifaaDoor.nm

/- Layer 6: records as data; which numbers, keys and messages may be. -/
namespace Go.Proofs.YtofffmnkoelifaaDoor.rc
open Go.ChangeShapes Go.WideShapes Go.ChangeAt Go.RowKit Go.Shelf
open Go.Proofs.YtofffmnkoelifaaDoor.nm Go.Proofs.YtofffmnkoelifaaDoor.vs

def numB (x : Int) : Bool := decide (0 ≤ x) && decide (x ≤ 1099511627776)
def numsB (m : MsgS) : Bool := numB m.due && numB m.ref && numB m.born
theorem numB_iff {x : Int} : numB x = true ↔ 0 ≤ x ∧ x ≤ 1099511627776 := by unfold numB; simp
/-- What a message carries may be. -/
def Carries (m : MsgS) : Prop := topicB m.topic = true ∧ 0 ≤ m.queue ∧ m.queue < 3 ∧ 0 ≤ m.retry ∧ m.retry ≤ 4 ∧ tagB m.tag = true ∧ m.keys.length ≤ 3 ∧ m.keys.all nm.keyB = true ∧ unlikeB m.keys = true ∧ m.body.size ≤ 200
instance (m : MsgS) : Decidable (Carries m) := by unfold Carries; exact inferInstance
end Go.Proofs.YtofffmnkoelifaaDoor.rc
