/- Lemmas for this claim. -/
import Derived.Lib.Atoi
import Derived.Lib.ItoaNum
import Derived.Lib.SlTrimSet
import Derived.Test.YtlnbehbipoahhaaGreatDoorPk11
namespace Go.Proofs.YtlnbehbipoahhaaGreatDoor.sg
def dL : Nat → Nat → List UInt8
  | 0, _ => []
  | k + 1, n => UInt8.ofNat (48 + n / 10 ^ k) :: dL k (n % 10 ^ k)
theorem dL_length : ∀ k n, (dL k n).length = k
  | 0, _ => rfl
  | k + 1, n => by show (dL k _).length + 1 = _; rw [dL_length k]
theorem dig_toNat {d : Nat} (h : d < 10) : (UInt8.ofNat (48 + d)).toNat = 48 + d := by
  rw [UInt8.toNat_ofNat']; exact Nat.mod_eq_of_lt (by omega)
theorem digitVal_of {d : Nat} (h : d < 10) : Lib.digitVal (UInt8.ofNat (48 + d)) = some d := by
  unfold Lib.digitVal; rw [dig_toNat h, if_pos (by omega)]; congr 1; omega
theorem top_lt {k n : Nat} (h : n < 10 ^ (k + 1)) : n / 10 ^ k < 10 := by
  rw [Nat.pow_succ] at h; exact Nat.div_lt_of_lt_mul h
theorem rest_lt (k n : Nat) : n % 10 ^ k < 10 ^ k := Nat.mod_lt _ (Nat.pow_pos (by decide))
theorem decFrom_dL : ∀ (k n acc : Nat), n < 10 ^ k → Lib.decFrom acc (dL k n) = some (acc * 10 ^ k + n)
  | 0, n, acc, h => by
    have : n = 0 := by simpa using h
    subst this; simp [dL, Lib.decFrom]
  | k + 1, n, acc, h => by
    show (match Lib.digitVal (UInt8.ofNat (48 + n / 10 ^ k)) with | some d => Lib.decFrom (acc * 10 + d) (dL k (n % 10 ^ k)) | none => none) = _
    rw [digitVal_of (top_lt h)]
    show Lib.decFrom (acc * 10 + n / 10 ^ k) (dL k (n % 10 ^ k)) = _
    rw [decFrom_dL k _ _ (rest_lt k n)]
    congr 1
    have h1 := Nat.div_add_mod n (10 ^ k)
    rw [Nat.pow_succ, Nat.add_mul, Nat.add_assoc, Nat.mul_comm (n / 10 ^ k), h1, Nat.mul_assoc, Nat.mul_comm 10]
theorem dL_zero : ∀ k, dL k 0 = List.replicate k 48
  | 0 => rfl
  | k + 1 => by
    show UInt8.ofNat (48 + 0 / 10 ^ k) :: dL k (0 % 10 ^ k) = _
    rw [Nat.zero_div, Nat.zero_mod, dL_zero k]; rfl
theorem dL_back : ∀ (k n : Nat), n < 10 ^ (k + 1) → dL (k + 1) n = dL k (n / 10) ++ [UInt8.ofNat (48 + n % 10)]
  | 0, n, h => by
    have h2 : n < 10 := by simpa using h
    show [UInt8.ofNat (48 + n / 10 ^ 0)] = [] ++ [_]
    rw [Nat.pow_zero, Nat.div_one, Nat.mod_eq_of_lt h2]; rfl
  | k + 1, n, h => by
    show UInt8.ofNat (48 + n / 10 ^ (k + 1)) :: dL (k + 1) (n % 10 ^ (k + 1)) = (UInt8.ofNat (48 + n / 10 / 10 ^ k) :: dL k (n / 10 % 10 ^ k)) ++ _
    rw [dL_back k _ (rest_lt _ _)]
    have e1 : n / 10 ^ (k + 1) = n / 10 / 10 ^ k := by rw [Nat.div_div_eq_div_mul, Nat.pow_succ, Nat.mul_comm]
    have e2 : n % 10 ^ (k + 1) / 10 = n / 10 % 10 ^ k := by rw [Nat.pow_succ, Nat.mul_comm, Nat.mod_mul_right_div_self]
    have e3 : n % 10 ^ (k + 1) % 10 = n % 10 := Nat.mod_mod_of_dvd _ (by rw [Nat.pow_succ]; exact Nat.dvd_mul_left _ _)
    rw [e1, e2, e3]; rfl
theorem pad_digits : ∀ (k n : Nat), n < 10 ^ (k + 1) → List.replicate (k + 1 - Lib.nDigits n) 48 ++ Lib.decDigits n = dL (k + 1) n
  | 0, n, h => by
    have h2 : n < 10 := by simpa using h
    rw [Lib.nDigits_small h2, Lib.decDigits_one h2, dL_back 0 n h, Nat.mod_eq_of_lt h2]; rfl
  | k + 1, n, h => by
    rw [dL_back _ n h]
    by_cases h2 : n < 10
    · rw [Lib.nDigits_small h2, Lib.decDigits_one h2, Nat.mod_eq_of_lt h2, Nat.div_eq_of_lt h2, dL_zero]; rfl
    · rw [Lib.nDigits_big h2, Lib.decDigits, dif_neg h2, ← pad_digits k (n / 10) (by rw [Nat.pow_succ] at h; omega), List.append_assoc]
      congr 2; omega
theorem nDigits_le {k n : Nat} (h : n < 10 ^ (k + 1)) : Lib.nDigits n ≤ k + 1 := by
  have h1 := congrArg List.length (pad_digits k n h)
  rw [List.length_append, List.length_replicate, Lib.decDigits_length, dL_length] at h1
  omega
theorem dL_onto : ∀ l : List UInt8, (∀ b ∈ l, 48 ≤ b.toNat ∧ b.toNat ≤ 57) → ∃ n, n < 10 ^ l.length ∧ l = dL l.length n
  | [], _ => ⟨0, by decide, rfl⟩
  | b :: l, h => by
    obtain ⟨m, hm, e⟩ := dL_onto l (fun x hx => h x (List.mem_cons_of_mem _ hx))
    have hb := h b (List.mem_cons_self ..)
    refine ⟨(b.toNat - 48) * 10 ^ l.length + m, ?_, ?_⟩
    · rw [List.length_cons, Nat.pow_succ]
      have h9 : b.toNat - 48 + 1 ≤ 10 := by omega
      have := Nat.mul_le_mul_right (10 ^ l.length) h9
      rw [Nat.add_mul] at this
      omega
    · show _ = UInt8.ofNat (48 + _ / 10 ^ l.length) :: dL l.length (_ % 10 ^ l.length)
      have hp : 0 < 10 ^ l.length := Nat.pow_pos (by decide)
      rw [Nat.mul_comm, Nat.mul_add_div hp, Nat.div_eq_of_lt hm, Nat.mul_add_mod, Nat.mod_eq_of_lt hm, ← e]
      congr 1
      refine UInt8.toNat_inj.1 ?_
      rw [Nat.add_zero, dig_toNat (by omega)]; omega
theorem dL_digits {k n : Nat} (h : n < 10 ^ k) : ∀ b ∈ dL k n, 48 ≤ b.toNat ∧ b.toNat ≤ 57 := by
  induction k generalizing n with
  | zero => intro b hb; cases hb
  | succ k ih =>
    intro b hb
    rcases List.mem_cons.1 hb with rfl | hb
    · rw [dig_toNat (top_lt h)]; exact ⟨Nat.le_add_right _ _, Nat.add_le_add_left (Nat.le_of_lt_succ (top_lt h)) 48⟩
    · exact ih (rest_lt k n) b hb
theorem dL_lt : ∀ {k m n : Nat}, m < n → n < 10 ^ k → dL k m < dL k n
  | 0, m, n, h, hn => by simp at hn; omega
  | k + 1, m, n, h, hn => by
    show UInt8.ofNat (48 + m / 10 ^ k) :: dL k (m % 10 ^ k) < UInt8.ofNat (48 + n / 10 ^ k) :: dL k (n % 10 ^ k)
    have hm : m < 10 ^ (k + 1) := Nat.lt_trans h hn
    rw [List.cons_lt_cons_iff]
    have hd : m / 10 ^ k ≤ n / 10 ^ k := Nat.div_le_div_right (Nat.le_of_lt h)
    rcases Nat.lt_or_eq_of_le hd with h1 | h1
    · left
      rw [UInt8.lt_iff_toNat_lt, dig_toNat (top_lt hm), dig_toNat (top_lt hn)]; omega
    · right
      refine ⟨by rw [h1], dL_lt ?_ (rest_lt k n)⟩
      have e1 := Nat.div_add_mod m (10 ^ k)
      have e2 := Nat.div_add_mod n (10 ^ k)
      rw [h1] at e1
      omega
def nameB (head : ByteArray) (n : Nat) : ByteArray := ⟨(head.data.toList ++ dL 8 n).toArray⟩
def placeOf (head n : ByteArray) : Option Nat :=
  if Lib.hasPrefix n.data.toList head.data.toList = true ∧ n.size = head.size + 8 ∧ (∀ b ∈ n.data.toList.drop head.size, 48 ≤ b.toNat ∧ b.toNat ≤ 57) then Lib.decFrom 0 (n.data.toList.drop head.size) else none
theorem name_size (head : ByteArray) (n : Nat) : (nameB head n).size = head.size + 8 := by
  show (head.data.toList ++ dL 8 n).toArray.size = _
  simp [dL_length]
theorem name_drop (head : ByteArray) (n : Nat) : (nameB head n).data.toList.drop head.size = dL 8 n := by
  show (head.data.toList ++ dL 8 n).drop head.data.size = _
  rw [← Array.length_toList, List.drop_left]
theorem name_prefix (head : ByteArray) (n : Nat) : Lib.hasPrefix (nameB head n).data.toList head.data.toList = true := by
  unfold Lib.hasPrefix nameB; simp
theorem place_name (head : ByteArray) {n : Nat} (h : n < 100000000) : placeOf head (nameB head n) = some n := by
  unfold placeOf
  rw [name_drop, if_pos ⟨name_prefix head n, name_size head n, dL_digits (k := 8) h⟩, decFrom_dL 8 n 0 h]; simp
theorem name_place {head s : ByteArray} {n : Nat} (h : placeOf head s = some n) : n < 100000000 ∧ s = nameB head n := by
  unfold placeOf at h
  split at h
  · rename_i hc
    obtain ⟨h1, h2, h3⟩ := hc
    obtain ⟨m, hm, e⟩ := dL_onto _ h3
    have hl : (s.data.toList.drop head.size).length = 8 := by
      have h4 : s.data.size = head.size + 8 := h2
      rw [List.length_drop, Array.length_toList]; omega
    rw [hl] at hm e
    rw [e, decFrom_dL 8 m 0 hm] at h
    obtain rfl : m = n := by simpa using h
    refine ⟨hm, ?_⟩
    have hp : s.data.toList.take head.size = head.data.toList := by
      have h5 : head.data.toList <+: s.data.toList := by unfold Lib.hasPrefix at h1; exact List.isPrefixOf_iff_prefix.1 h1
      obtain ⟨t, ht⟩ := h5
      rw [← ht]
      show (head.data.toList ++ t).take head.data.size = _
      rw [← Array.length_toList, List.take_left]
    have := List.take_append_drop head.size s.data.toList
    rw [hp, e] at this
    unfold nameB
    rw [this]
  · cases h
theorem name_inj {head : ByteArray} {m n : Nat} (hm : m < 100000000) (hn : n < 100000000) (h : nameB head m = nameB head n) : m = n := by
  have h1 := place_name head hm
  rw [h, place_name head hn] at h1
  exact (Option.some.inj h1).symm
end Go.Proofs.YtlnbehbipoahhaaGreatDoor.sg

namespace Go.Proofs.YtlnbehbipoahhaaGreatDoor.sg
open Go.Proofs.YtlnbehbipoahhaaGreatDoor.dk
structure RowS where
  head : ByteArray
  size : Nat
  start : Nat
  cnt : Nat
  fin : Nat
  synced : Nat
def plc (start size cnt : Nat) : List Nat := (List.range cnt).map fun i => start + i * size
def RowS.places (R : RowS) : List Nat := plc R.start R.size R.cnt
def RowS.lastp (R : RowS) : Nat := R.start + (R.cnt - 1) * R.size
def RowS.stop (R : RowS) : Nat := R.start + R.cnt * R.size
structure RowOk (R : RowS) : Prop where
  size : 16 ≤ R.size ∧ R.size ≤ 4096
  head : R.head.size ≤ 1000000
  none : R.cnt = 0 → R.start = 0 ∧ R.fin = 0
  fin : 0 < R.cnt → R.lastp ≤ R.fin ∧ R.fin ≤ R.stop
  least : 0 < R.cnt → R.lastp ≤ 99999999
  mod : R.start % R.size = 0
  synced : R.synced ≤ 100004095
theorem plc_length (a s c : Nat) : (plc a s c).length = c := by unfold plc; simp
theorem plc_get (a s c : Nat) {k : Nat} (h : k < (plc a s c).length) : (plc a s c)[k] = a + k * s := by simp [plc]
theorem plc_snoc (a s c : Nat) : plc a s (c + 1) = plc a s c ++ [a + c * s] := by unfold plc; rw [List.range_succ, List.map_append]; rfl
theorem plc_take (a s c k : Nat) (h : k ≤ c) : (plc a s c).take k = plc a s k := by unfold plc; rw [← List.map_take, List.take_range, Nat.min_eq_left h]
theorem plc_drop (a s c k : Nat) : (plc a s c).drop k = plc (a + k * s) s (c - k) := by
  refine List.ext_getElem (by simp [plc_length]) fun i h1 h2 => ?_
  rw [List.getElem_drop, plc_get, plc_get, Nat.add_mul]; omega
section
variable {R : RowS}
theorem RowS.length (R : RowS) : R.places.length = R.cnt := plc_length _ _ _
theorem RowOk.stop (h : 0 < R.cnt) : R.stop = R.lastp + R.size := by
  unfold RowS.stop RowS.lastp
  obtain ⟨c, hc⟩ : ∃ c, R.cnt = c + 1 := ⟨R.cnt - 1, by omega⟩
  rw [hc, Nat.succ_mul, Nat.add_sub_cancel]; omega
theorem RowS.start_le (R : RowS) : R.start ≤ R.lastp := Nat.le_add_right _ _
theorem RowOk.few (h : RowOk R) : R.cnt ≤ 6250001 := by
  by_cases h0 : 0 < R.cnt
  · have h1 := h.least h0
    have h2 := Nat.mul_le_mul_left (R.cnt - 1) h.size.1
    unfold RowS.lastp at h1
    omega
  · omega
theorem RowOk.le (h : RowOk R) : R.fin ≤ 100004095 ∧ R.start ≤ 99999999 ∧ R.synced ≤ 100004095 := by
  have h2 := h.size
  have h3 := h.synced
  by_cases h0 : 0 < R.cnt
  · have h4 := h.fin h0
    have h5 := h.least h0
    have h6 := RowOk.stop (R := R) h0
    have h7 := R.start_le
    omega
  · have := h.none (by omega); omega
theorem RowOk.place (h : RowOk R) {k : Nat} (hk : k < R.cnt) : R.start + k * R.size ≤ R.lastp ∧ R.start + k * R.size ≤ 99999999 := by
  have h1 := h.least (by omega)
  have h2 := Nat.mul_le_mul_right R.size (show k ≤ R.cnt - 1 by omega)
  unfold RowS.lastp at h1 ⊢
  omega
def RowS.room (R : RowS) : Nat := if 0 < R.cnt ∧ R.fin < R.stop then R.stop - R.fin else R.size
def RowS.left (R : RowS) (k : Int) : Nat := if k < R.start ∨ (R.fin : Int) ≤ k then 0 else min (k.toNat / R.size * R.size + R.size) R.fin - k.toNat
theorem RowOk.room (h : RowOk R) : 0 < R.room ∧ R.room ≤ R.size := by
  unfold RowS.room
  split
  · rename_i hc
    have := RowOk.stop hc.1
    have := (h.fin hc.1).1
    omega
  · have := h.size; omega
def RowS.isFresh (R : RowS) : Bool := decide (R.room < R.size) || (decide (0 < R.cnt) && decide (R.fin = R.lastp))
def RowS.more (R : RowS) : RowS := { R with cnt := R.cnt + 1 }
def freshD (D : DiskS) (R : RowS) (b : Nat) : Int × DiskS × RowS :=
  if R.isFresh = true then (0, D, R) else
  if 99999999 < R.fin then (2, D, R) else
  if (D.create (nameB R.head R.fin) b).1 ≠ 0 then ((D.create (nameB R.head R.fin) b).1, (D.create (nameB R.head R.fin) b).2, R) else
  (0, (D.create (nameB R.head R.fin) b).2, R.more)
def RowS.grow (R : RowS) (n : Nat) : RowS := { R with fin := R.fin + n }
def putD (D : DiskS) (R : RowS) (s : ByteArray) : (Int × Int) × DiskS × RowS :=
  if (D.write (nameB R.head R.lastp) ((R.fin - R.lastp : Nat) : Int) s).1 ≠ 0 then ((0, (D.write (nameB R.head R.lastp) ((R.fin - R.lastp : Nat) : Int) s).1), (D.write (nameB R.head R.lastp) ((R.fin - R.lastp : Nat) : Int) s).2, R) else
  (((R.fin : Int), 0), (D.write (nameB R.head R.lastp) ((R.fin - R.lastp : Nat) : Int) s).2, R.grow s.size)
def appendD (D : DiskS) (R : RowS) (s : ByteArray) (b : Nat) : (Int × Int) × DiskS × RowS :=
  if s.size = 0 ∨ R.room < s.size then ((0, 1), D, R) else
  if D.cap - D.size < s.size ∧ D.down = false then ((0, 7), D, R) else
  if (freshD D R b).1 ≠ 0 then ((0, (freshD D R b).1), (freshD D R b).2) else
  putD (freshD D R b).2.1 (freshD D R b).2.2 s
theorem RowOk.fresh (h : RowOk R) (hf : R.isFresh = false) : R.fin = R.stop ∧ R.room = R.size := by
  unfold RowS.isFresh at hf
  rw [Bool.or_eq_false_iff, Bool.and_eq_false_iff] at hf
  have h1 : ¬ R.room < R.size := by simpa using hf.1
  have h2 := h.room
  refine ⟨?_, by omega⟩
  by_cases h0 : 0 < R.cnt
  · have h3 := h.fin h0
    have h4 := RowOk.stop (R := R) h0
    have h5 : ¬ R.fin = R.lastp := by
      rcases hf.2 with hf | hf
      · simp [h0] at hf
      · simpa using hf
    unfold RowS.room at h1
    by_cases h6 : R.fin < R.stop
    · rw [if_pos ⟨h0, h6⟩] at h1; omega
    · omega
  · have h3 := h.none (by omega)
    unfold RowS.stop
    have h4 : R.cnt = 0 := by omega
    rw [h4, h3.1, h3.2]; simp
theorem RowOk.more (h : RowOk R) (hf : R.isFresh = false) (hl : R.fin ≤ 99999999) : RowOk R.more ∧ R.more.lastp = R.fin := by
  obtain ⟨h1, h2⟩ := h.fresh hf
  have h3 : R.more.lastp = R.fin := by
    show R.start + (R.cnt + 1 - 1) * R.size = _
    rw [Nat.add_sub_cancel]; exact h1.symm
  have h4 := RowOk.stop (R := R.more) (Nat.succ_pos _)
  refine ⟨⟨h.size, h.head, fun e => (by cases e), fun _ => ?_, fun _ => (by omega), h.mod, h.synced⟩, h3⟩
  show R.more.lastp ≤ R.fin ∧ R.fin ≤ R.more.stop
  omega
theorem RowOk.grow (h : RowOk R) (h0 : 0 < R.cnt) {n : Nat} (hn : R.fin + n ≤ R.stop) : RowOk (R.grow n) := by
  have h1 := h.fin h0
  have h2 := h.synced
  exact ⟨h.size, h.head, fun e => (by have : R.cnt = 0 := e; omega), fun _ => ⟨(by show R.lastp ≤ R.fin + n; omega), hn⟩, h.least, h.mod, h.synced⟩
theorem isFresh_cnt (h : RowOk R) (hf : R.isFresh = true) : 0 < R.cnt := by
  unfold RowS.isFresh at hf
  by_cases h0 : 0 < R.cnt
  · exact h0
  · have : R.room = R.size := by unfold RowS.room; rw [if_neg (fun h => h0 h.1)]
    rw [this] at hf
    simp [h0] at hf
theorem fresh_ok (h : RowOk R) (D : DiskS) (b : Nat) : RowOk (freshD D R b).2.2 ∧ ((freshD D R b).1 = 0 → 0 < (freshD D R b).2.2.cnt ∧ (freshD D R b).2.2.fin = R.fin ∧ (R.room ≤ (freshD D R b).2.2.stop - R.fin)) := by
  unfold freshD
  split
  · rename_i hf
    refine ⟨h, fun _ => ⟨isFresh_cnt h hf, rfl, ?_⟩⟩
    have h0 := isFresh_cnt h hf
    have h1 := h.fin h0
    have h2 := RowOk.stop (R := R) h0
    show R.room ≤ R.stop - R.fin
    by_cases h3 : R.fin < R.stop
    · unfold RowS.room; rw [if_pos ⟨h0, h3⟩]; exact Nat.le_refl _
    · exfalso
      unfold RowS.isFresh at hf
      have : R.room = R.size := by unfold RowS.room; rw [if_neg (fun h => h3 h.2)]
      rw [this] at hf
      have h4 := h.size
      simp at hf
      omega
  · rename_i hf
    have hf : R.isFresh = false := by simpa using hf
    split
    · exact ⟨h, fun e => by cases e⟩
    · rename_i hl
      split
      · rename_i hc
        exact ⟨h, fun e => absurd e hc⟩
      · obtain ⟨h1, h2⟩ := h.more hf (by omega)
        refine ⟨h1, fun _ => ⟨Nat.succ_pos _, rfl, ?_⟩⟩
        have h3 := RowOk.stop (R := R.more) (Nat.succ_pos _)
        have h4 := h.fresh hf
        show R.room ≤ R.more.stop - R.fin
        have : R.more.size = R.size := rfl
        omega
def RowS.dirty (R : RowS) : List Nat := R.places.filter fun p => decide (R.synced < p + R.size) && decide (R.synced < R.fin)
def RowS.clean (R : RowS) : RowS := { R with synced := R.fin }
def syncD (D : DiskS) (R : RowS) : Int × DiskS × RowS :=
  if D.down then (8, D, R) else
  if R.dirty = [] then (0, D, R) else
  if (D.sync (R.dirty.map (nameB R.head))).1 ≠ 0 then ((D.sync (R.dirty.map (nameB R.head))).1, (D.sync (R.dirty.map (nameB R.head))).2, R) else
  (0, (D.sync (R.dirty.map (nameB R.head))).2, R.clean)
theorem RowOk.clean (h : RowOk R) : RowOk R.clean := ⟨h.size, h.head, h.none, h.fin, h.least, h.mod, h.le.1⟩
def readD (D : DiskS) (R : RowS) (k m : Int) : ByteArray × Int :=
  if D.down then (⟨#[]⟩, 8) else
  if m = 0 ∧ (R.start : Int) ≤ k ∧ k ≤ R.fin then (⟨#[]⟩, 0) else
  if m < 1 ∨ (R.left k : Int) < m then (⟨#[]⟩, 2) else
  D.read (nameB R.head (k.toNat / R.size * R.size)) (k - (k.toNat / R.size * R.size : Nat)) m
def RowS.keepN (R : RowS) (k : Int) : Nat := match R.places.findIdx? (fun p : Nat => decide (k ≤ (p : Int)) && decide (R.start < p)) with | some i => i | none => R.cnt
def RowS.firsts (R : RowS) (i : Nat) : RowS := { R with cnt := i, fin := min R.fin (R.start + i * R.size) }
def cutA (D : DiskS) (R : RowS) (k : Int) : Int × DiskS × RowS :=
  if R.keepN k = R.cnt then (0, D, R) else
  if (D.delete ((R.places.drop (R.keepN k)).map (nameB R.head))).1 ≠ 0 then ((D.delete ((R.places.drop (R.keepN k)).map (nameB R.head))).1, (D.delete ((R.places.drop (R.keepN k)).map (nameB R.head))).2, R) else
  (0, (D.delete ((R.places.drop (R.keepN k)).map (nameB R.head))).2, R.firsts (R.keepN k))
def RowS.ends (R : RowS) (k : Nat) : RowS := { R with fin := k, synced := min R.synced k }
def cutB (D : DiskS) (R : RowS) (k : Int) : Int × DiskS × RowS :=
  if k < R.fin then
    if (D.cut (nameB R.head R.lastp) (k - R.lastp)).1 ≠ 0 then ((D.cut (nameB R.head R.lastp) (k - R.lastp)).1, (D.cut (nameB R.head R.lastp) (k - R.lastp)).2, R) else
    (0, (D.cut (nameB R.head R.lastp) (k - R.lastp)).2, R.ends k.toNat)
  else (0, D, R.ends R.fin)
def cutD (D : DiskS) (R : RowS) (k : Int) : Int × DiskS × RowS :=
  if D.down then (8, D, R) else
  if k < R.start ∨ (R.fin : Int) < k then (2, D, R) else
  if (cutA D R k).1 ≠ 0 then cutA D R k else cutB (cutA D R k).2.1 (cutA D R k).2.2 k
def RowS.rest (R : RowS) : RowS := { R with start := R.start + R.size, cnt := R.cnt - 1, synced := max R.synced (R.start + R.size) }
def dropD (D : DiskS) (R : RowS) : (Int × Int) × DiskS × RowS :=
  if D.down then ((0, 8), D, R) else
  if R.cnt < 2 then ((0, 9), D, R) else
  if (D.delete [nameB R.head R.start]).1 ≠ 0 then ((0, (D.delete [nameB R.head R.start]).1), (D.delete [nameB R.head R.start]).2, R) else
  ((((R.start + R.size : Nat) : Int), 0), (D.delete [nameB R.head R.start]).2, R.rest)
end
theorem RowOk.firsts {R : RowS} (h : RowOk R) {i : Nat} (h1 : 1 ≤ i) (h2 : i < R.cnt) : RowOk (R.firsts i) ∧ (R.firsts i).fin = R.start + i * R.size ∧ (R.firsts i).fin = (R.firsts i).stop := by
  have h3 := h.fin (by omega)
  have h4 := h.place h2
  have h5 := h.synced
  have h6 : (R.firsts i).fin = R.start + i * R.size := by
    show min R.fin (R.start + i * R.size) = _
    omega
  have h7 : (R.firsts i).stop = R.start + i * R.size := rfl
  have h8 := RowOk.stop (R := R.firsts i) h1
  refine ⟨⟨h.size, h.head, fun e => ?_, fun _ => (by omega), fun _ => ?_, h.mod, h.synced⟩, h6, (by omega)⟩
  · have : i = 0 := e; omega
  · have := h.place (k := i - 1) (by omega)
    exact this.2
theorem RowOk.ends {R : RowS} (h : RowOk R) {k : Nat} (h1 : R.start ≤ k) (h2 : R.lastp ≤ k) (h3 : k ≤ R.fin) : RowOk (R.ends k) := by
  have h5 := h.synced
  refine ⟨h.size, h.head, fun e => ?_, fun h0 => ?_, h.least, h.mod, ?_⟩
  · have := h.none e; exact ⟨this.1, by show k = 0; omega⟩
  · have := h.fin h0
    exact ⟨h2, by show k ≤ R.stop; omega⟩
  · show min R.synced k ≤ _
    omega
theorem RowOk.rest {R : RowS} (h : RowOk R) (h2 : 2 ≤ R.cnt) : RowOk R.rest := by
  have h3 := h.fin (by omega)
  have h4 := h.least (by omega)
  have h5 : R.rest.lastp = R.lastp := by
    show R.start + R.size + (R.cnt - 1 - 1) * R.size = R.start + (R.cnt - 1) * R.size
    obtain ⟨c, hc⟩ : ∃ c, R.cnt = c + 2 := ⟨R.cnt - 2, by omega⟩
    rw [hc, show c + 2 - 1 - 1 = c by omega, show c + 2 - 1 = c + 1 by omega, Nat.succ_mul]; omega
  have h6 : R.rest.stop = R.stop := by
    rw [RowOk.stop (R := R) (by omega), RowOk.stop (R := R.rest) (by show 0 < R.cnt - 1; omega), h5]; rfl
  have h7 := R.rest.start_le
  have h8 := h.synced
  refine ⟨h.size, h.head, fun e => ?_, fun _ => ?_, fun _ => (by rw [h5]; exact h4), ?_, ?_⟩
  · have : R.cnt - 1 = 0 := e; omega
  · rw [h5, h6]; exact h3
  · show (R.start + R.size) % R.size = 0
    rw [Nat.add_mod_right]; exact h.mod
  · have h9 : R.rest.start = R.start + R.size := rfl
    show max R.synced (R.start + R.size) ≤ _
    have := h.le
    omega
end Go.Proofs.YtlnbehbipoahhaaGreatDoor.sg
