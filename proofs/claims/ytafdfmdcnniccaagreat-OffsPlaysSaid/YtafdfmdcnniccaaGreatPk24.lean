/- Layer 6: records as data. -/
import Derived.Test.YtafdfmdcnniccaaGreatRows
import Derived.WalkKit
import Derived.ProofKit
import Derived.OpenShut
import Derived.Handy
import Derived.Deep.LoopGhost
import Derived.Lib.Hide
import Derived.Lib.Strings
import Derived.SizedLaws
import Derived.Maps.Own
import Derived.Maps.OwnOps
import Derived.Maps.OwnSet
import Derived.Maps.RangeWalk
import Derived.Deep.QuietTactic
import Derived.BigQuiet
import Derived.Deep.RegionHeld3
import Derived.Lib.ConvBytes
import Derived.Lib.AppendZeros
import Derived.Lib.AppendZerosOnto
import Derived.Lib.LazyBuf
import Derived.Shelf.Abstract
import Derived.LaidEql
import Derived.Lib.SliceRun
import Derived.StillTailTactics
import Derived.Deep.Slices
import Derived.Outline
import Derived.Laws.Cover1
import Derived.Deep.RegionLaw
import Derived.Deep.DeepCutAuto
import Derived.Deep.CutBlock
import Derived.Shelf.SlicesE.Clone
import Derived.Ground.SlgnProg
import Derived.Test.YtafdfmdcnniccaaGreatProg
import Derived.Shelf.Strings.Builder1
import Derived.Shelf.Small.Bits
import Derived.Shelf.Small.Wraps
import Derived.Shelf.Strings.BuilderF
import Derived.Shelf.Strings.BuilderK
import Derived.Shelf.Strconv.Itoa0
import Derived.Shelf.Sort.Plain
import Derived.Shelf.GgClosure.StringsIndexFunc
import Derived.Ground.GgwProg
import Derived.Shelf.GgClosure.StringsIndexFuncTop
import Derived.Shelf.GgClosure.StringsRunes
import Derived.Shelf.Strings.Prefix
import Derived.Shelf.Strings.BuilderCap
import Derived.Ground.Names2Prog
import Derived.Shelf.Slices.SearchI
import Derived.Shelf.Slices.In.SortNone
import Derived.Ground.SlgfProg
import Derived.Shelf.SlicesE.IndexFunc
import Derived.Shelf.SlicesE.DeleteFunc
import Derived.Lib.DecodeN
import Derived.Lib.Overlaps
import Derived.Laws.CopyOwn
import Derived.Laws.MakeOwn
import Derived.Lib.Builder
import Derived.Lib.AppendStr
import Derived.Laws.Rows
import Derived.Test.YtafdfmdcnniccaaGreatPk23
namespace Go.Proofs.YtafdfmdcnniccaaGreat.rc
open Go.RowKit

/-- A record. -/
structure MsgS where
  kind : Int
  queue : Int
  due : Int
  retry : Int
  ref : Int
  born : Int
  topic : ByteArray
  tag : ByteArray
  body : ByteArray
  keys : List ByteArray
abbrev msgA (m : MsgS) (kv : Value) : Array Value := #[.int .i64 m.kind, .int .i64 m.queue, .int .i64 m.due, .int .i64 m.retry, .int .i64 m.ref, .int .i64 m.born, .string m.topic, .string m.tag, .string m.body, kv]
/-- Noughts. -/
def zerosB (n : Nat) : ByteArray := ⟨(List.replicate n (0 : UInt8)).toArray⟩
theorem zerosB_size (n : Nat) : (zerosB n).size = n := by show (List.replicate n (0 : UInt8)).toArray.size = n; simp
theorem zeros_iff (b : ByteArray) : b = zerosB b.size ↔ b.data.toList.all (· == 0) = true := by
  constructor
  · intro h
    rw [h]
    unfold zerosB
    simp
  · intro h
    apply ba_ext
    unfold zerosB
    simp only
    have : b.data.toList = List.replicate b.data.toList.length 0 := List.eq_replicate_iff.2 ⟨rfl, fun x hx => by have := List.all_eq_true.1 h x hx; simpa using this⟩
    rw [size_toList] at this
    exact this
end Go.Proofs.YtafdfmdcnniccaaGreat.rc

/- Plain: a record's bytes, and what is read of bytes. -/
namespace Go.Proofs.YtafdfmdcnniccaaGreat.oc
open Go.RowKit

/-! What was read without an error is what lay there. -/
theorem getN_app (a b : List UInt8) : getN (a ++ b) = getN a * 256 ^ b.length + getN b := by
  induction b generalizing a with
  | nil => simp [getN]
  | cons c b ih =>
    rw [show a ++ c :: b = (a ++ [c]) ++ b by simp, ih, getN_snoc, show c :: b = [c] ++ b from rfl, ih [c]]
    have : getN [c] = c.toNat := by simp [getN]
    rw [this, List.length_append, List.length_singleton, Nat.add_comm 1, Nat.pow_succ, Nat.add_mul, Nat.mul_comm 256 (getN a), Nat.mul_assoc, Nat.mul_comm 256]
    omega
theorem low_cut : ∀ (m n : Nat), m ≤ n → ∀ x, low m x = low m (x % 256 ^ n) := fun m => by
  induction m with
  | zero => intro n _ x; rfl
  | succ m ih =>
    intro n hm x
    unfold low
    rw [ih n (by omega) x]
    congr 1
    have : x % 256 ^ n / 256 ^ m % 256 = x / 256 ^ m % 256 := by
      obtain ⟨d, rfl⟩ : ∃ d, n = m + 1 + d := ⟨n - (m + 1), by omega⟩
      have e : 256 ^ (m + 1 + d) = 256 ^ m * (256 * 256 ^ d) := by rw [Nat.pow_add, Nat.pow_succ, Nat.mul_assoc]
      rw [e, Nat.mod_mul_right_div_self, Nat.mod_mul_right_mod]
    apply UInt8.toNat_inj.1
    simp [this]
theorem getN_lt (l : List UInt8) : getN l < 256 ^ l.length := by
  have := getN_take l l.length (Nat.le_refl _)
  rwa [List.take_length] at this
theorem low_getN : ∀ (l : List UInt8), low l.length (getN l) = l
  | [] => rfl
  | b :: l => by
    have e : getN (b :: l) = b.toNat * 256 ^ l.length + getN l := by
      rw [show b :: l = [b] ++ l from rfl, getN_app, show getN [b] = b.toNat by simp [getN]]
    have hl := getN_lt l
    have hp : 0 < 256 ^ l.length := Nat.pow_pos (by decide)
    rw [List.length_cons, low, e]
    rw [low_cut l.length l.length (Nat.le_refl _) (b.toNat * 256 ^ l.length + getN l), Nat.mul_comm, Nat.mul_add_mod, Nat.mod_eq_of_lt hl, low_getN l, Nat.mul_add_div hp, Nat.div_eq_of_lt hl, Nat.add_zero]
    simp
/-- A reader that goes on without an error over these bytes. -/
structure Over (R R' : Rdr) (l : List UInt8) : Prop where
  ok : R.e = 0
  ok' : R'.e = 0
  bytes : R.s.data.toList = l ++ R'.s.data.toList
theorem Over.trans {R R' R'' : Rdr} {l m : List UInt8} (h : Over R R' l) (g : Over R' R'' m) : Over R R'' (l ++ m) :=
  ⟨h.ok, g.ok', by rw [h.bytes, g.bytes, List.append_assoc]⟩
theorem take_over {R : Rdr} {n : Int} (h : (R.take n).2.e = 0) : Over R (R.take n).2 (R.take n).1.data.toList ∧ ((R.take n).1.size : Int) = n := by
  unfold Rdr.take at h ⊢
  by_cases h1 : R.e ≠ 0
  · rw [if_pos h1] at h; exact absurd h h1
  rw [if_neg h1] at h ⊢
  by_cases h2 : n < 0
  · rw [if_pos h2] at h; cases h
  rw [if_neg h2] at h ⊢
  by_cases h3 : (R.s.size : Int) < n
  · rw [if_pos h3] at h; cases h
  rw [if_neg h3]
  refine ⟨⟨by simpa using h1, rfl, ?_⟩, ?_⟩
  · simp only [ByteArray.data_extract, Array.toList_extract, List.extract_eq_take_drop, List.drop_zero, Nat.sub_zero]
    rw [List.take_of_length_le (l := List.drop _ _) (by rw [List.length_drop, size_toList]; exact Nat.le_refl _), List.take_append_drop]
  · simp only [ByteArray.size_extract]; omega
theorem num_over {R : Rdr} {n : Nat} (h1 : 1 ≤ n) (h7 : n ≤ 7) (h : (R.num n).2.e = 0) : Over R (R.num n).2 (low n (R.num n).1.toNat) := by
  unfold Rdr.num at h ⊢
  by_cases h0 : R.e ≠ 0
  · rw [if_pos h0] at h; exact absurd h h0
  rw [if_neg h0] at h ⊢
  rw [if_neg (by omega)] at h ⊢
  obtain ⟨ho, hn⟩ := take_over h
  have e : low n (getN (R.take n).1.data.toList) = (R.take n).1.data.toList := by
    have hl : (R.take n).1.data.toList.length = n := by rw [size_toList]; omega
    have := low_getN (R.take n).1.data.toList
    rwa [hl] at this
  simp only [Int.toNat_natCast]
  rw [e]
  exact ho
theorem text_over {R : Rdr} {most : Int} (h : (R.text most).2.e = 0) : Over R (R.text most).2 (textL (R.text most).1) ∧ ((R.text most).1.size : Int) ≤ most := by
  unfold Rdr.text at h ⊢
  by_cases h0 : R.e ≠ 0
  · rw [if_pos h0] at h; exact absurd h h0
  rw [if_neg h0] at h ⊢
  simp only at h ⊢
  by_cases ht : ((if (R.num 2).2.e = 0 ∧ most < (R.num 2).1 then (⟨(R.num 2).2.s, 6⟩ : Rdr) else (R.num 2).2).take (R.num 2).1).2.e ≠ 0
  · rw [if_pos ht] at h; exact absurd h ht
  rw [if_neg ht] at h ⊢
  by_cases hc : (R.num 2).2.e = 0 ∧ most < (R.num 2).1
  · rw [if_pos hc] at h
    have := (take_over h).1.ok
    cases this
  rw [if_neg hc] at h ⊢
  obtain ⟨ho, hn⟩ := take_over h
  have hm : (R.num 2).1 ≤ most := by
    have : ¬ most < (R.num 2).1 := fun hh => hc ⟨ho.ok, hh⟩
    omega
  have h2 := num_over (R := R) (n := 2) (by decide) (by decide) ho.ok
  refine ⟨?_, by omega⟩
  have := h2.trans ho
  unfold textL
  rwa [show (R.num ((2 : Nat) : Int)).1.toNat = ((R.num 2).2.take (R.num 2).1).1.size by
    show (R.num 2).1.toNat = _
    omega] at this
theorem texts_over {R : Rdr} {most : Int} : ∀ k : Nat, (R.texts most k).2.e = 0 → Over R (R.texts most k).2 (textsL (R.texts most k).1) ∧ (R.texts most k).1.length = k ∧ ∀ s ∈ (R.texts most k).1, (s.size : Int) ≤ most
  | 0, h => ⟨⟨h, h, rfl⟩, rfl, fun s hs => by cases hs⟩
  | k + 1, h => by
    simp only [Rdr.texts] at h ⊢
    obtain ⟨ho, hsz⟩ := text_over h
    obtain ⟨ho2, hl, hall⟩ := texts_over k ho.ok
    refine ⟨?_, by rw [List.length_append, hl]; rfl, fun s hs => ?_⟩
    · have := ho2.trans ho
      unfold textsL
      rw [List.flatMap_append]
      simpa [textsL] using this
    · rcases List.mem_append.1 hs with hs | hs
      · exact hall s hs
      · rw [List.mem_singleton.1 hs]; exact hsz
theorem list_over {R : Rdr} {many most : Int} (h : (R.list many most).2.e = 0) :
    Over R (R.list many most).2 (low 1 (R.list many most).1.length ++ textsL (R.list many most).1) ∧ ((R.list many most).1.length : Int) ≤ many ∧ ∀ s ∈ (R.list many most).1, (s.size : Int) ≤ most := by
  unfold Rdr.list at h ⊢
  by_cases h0 : R.e ≠ 0
  · rw [if_pos h0] at h; exact absurd h h0
  rw [if_neg h0] at h ⊢
  simp only at h ⊢
  by_cases ht : ((if (R.num 1).2.e = 0 ∧ many < (R.num 1).1 then (⟨(R.num 1).2.s, 6⟩ : Rdr) else (R.num 1).2).texts most (R.num 1).1.toNat).2.e ≠ 0
  · rw [if_pos ht] at h; exact absurd h ht
  rw [if_neg ht] at h ⊢
  by_cases hc : (R.num 1).2.e = 0 ∧ many < (R.num 1).1
  · rw [if_pos hc] at h
    have := (texts_over _ h).1.ok
    cases this
  rw [if_neg hc] at h ⊢
  obtain ⟨ho, hl, hall⟩ := texts_over _ h
  have hm : (R.num 1).1 ≤ many := by
    have : ¬ many < (R.num 1).1 := fun hh => hc ⟨ho.ok, hh⟩
    omega
  have h1 := num_over (R := R) (n := 1) (by decide) (by decide) ho.ok
  have hp := (num_small R 1).1
  refine ⟨?_, by rw [hl]; omega, hall⟩
  have := h1.trans ho
  rw [hl]
  exact this

/-! What was laid there is what is read. -/
theorem bytes_mk (b : ByteArray) : (⟨b.data.toList.toArray⟩ : ByteArray) = b := by apply ba_ext; simp
theorem take_back (a rest : List UInt8) : (⟨⟨(a ++ rest).toArray⟩, 0⟩ : Rdr).take a.length = (⟨a.toArray⟩, ⟨⟨rest.toArray⟩, 0⟩) := by
  have hsz : (⟨(a ++ rest).toArray⟩ : ByteArray).size = a.length + rest.length := by show (a ++ rest).toArray.size = _; simp
  unfold Rdr.take
  rw [if_neg (fun h => h rfl), if_neg (by omega), if_neg (by rw [hsz]; omega)]
  simp only [Int.toNat_natCast]
  rw [hsz]
  congr 1
  · apply ba_ext
    simp
  · congr 1
    apply ba_ext
    simp
theorem num_back (n x : Nat) (h1 : 1 ≤ n) (h7 : n ≤ 7) (hx : x < 256 ^ n) (rest : List UInt8) : (⟨⟨(low n x ++ rest).toArray⟩, 0⟩ : Rdr).num n = ((x : Int), ⟨⟨rest.toArray⟩, 0⟩) := by
  have ht := take_back (low n x) rest
  rw [low_length] at ht
  unfold Rdr.num
  rw [if_neg (fun h => h rfl), if_neg (by omega), ht]
  have : getN (low n x) = x := by
    have h := low_getN (low n x)
    rw [low_length] at h
    have hl := getN_lt (low n x)
    rw [low_length] at hl
    exact low_inj n _ _ hl hx h
  simp only [this]
where
  low_inj : ∀ (n x y : Nat), x < 256 ^ n → y < 256 ^ n → low n x = low n y → x = y
    | 0, x, y, hx, hy, _ => by simp at hx hy; omega
    | n + 1, x, y, hx, hy, h => by
      simp only [low, List.cons.injEq] at h
      obtain ⟨h1, h2⟩ := h
      have hp : 0 < 256 ^ n := Nat.pow_pos (by decide)
      have hdx : x / 256 ^ n < 256 := by rw [Nat.div_lt_iff_lt_mul hp]; rw [Nat.pow_succ, Nat.mul_comm] at hx; exact hx
      have hdy : y / 256 ^ n < 256 := by rw [Nat.div_lt_iff_lt_mul hp]; rw [Nat.pow_succ, Nat.mul_comm] at hy; exact hy
      have e1 : x / 256 ^ n = y / 256 ^ n := by
        have := congrArg UInt8.toNat h1
        simpa [Nat.mod_eq_of_lt hdx, Nat.mod_eq_of_lt hdy] using this
      rw [low_cut n n (Nat.le_refl _) x, low_cut n n (Nat.le_refl _) y] at h2
      have e2 := low_inj n _ _ (Nat.mod_lt x hp) (Nat.mod_lt y hp) h2
      have dx := Nat.div_add_mod x (256 ^ n)
      have dy := Nat.div_add_mod y (256 ^ n)
      rw [e1, e2] at dx
      omega
theorem text_back (t : ByteArray) (most : Int) (h : (t.size : Int) ≤ most) (h16 : t.size ≤ 65535) (rest : List UInt8) : (⟨⟨(textL t ++ rest).toArray⟩, 0⟩ : Rdr).text most = (t, ⟨⟨rest.toArray⟩, 0⟩) := by
  have hn := num_back 2 t.size (by decide) (by decide) (by show t.size < 65536; omega) (t.data.toList ++ rest)
  have ht := take_back t.data.toList rest
  rw [size_toList, bytes_mk] at ht
  unfold Rdr.text textL
  rw [List.append_assoc]
  rw [if_neg (fun h => h rfl)]
  simp only
  rw [show ((2 : Nat) : Int) = 2 from rfl] at hn
  rw [hn]
  simp only
  rw [if_neg (show ¬ (True ∧ most < (t.size : Int)) from fun hh => by omega), ht, if_neg (fun h => h rfl)]
theorem texts_back (l : List ByteArray) (most : Int) (h : ∀ t ∈ l, (t.size : Int) ≤ most ∧ t.size ≤ 65535) (rest : List UInt8) : ∀ k, k ≤ l.length → (⟨⟨(textsL l ++ rest).toArray⟩, 0⟩ : Rdr).texts most k = (l.take k, ⟨⟨(textsL (l.drop k) ++ rest).toArray⟩, 0⟩)
  | 0, _ => by simp [Rdr.texts]
  | k + 1, hk => by
    have ih := texts_back l most h rest k (by omega)
    have hd : l.drop k = l[k]'(by omega) :: l.drop (k + 1) := (List.drop_eq_getElem_cons (by omega))
    have ht := h (l[k]'(by omega)) (List.getElem_mem _)
    simp only [Rdr.texts, ih]
    rw [hd]
    have e : textsL (l[k]'(by omega) :: l.drop (k + 1)) ++ rest = textL (l[k]'(by omega)) ++ (textsL (l.drop (k + 1)) ++ rest) := by unfold textsL; rw [List.flatMap_cons, List.append_assoc]
    rw [e, text_back _ most ht.1 ht.2, List.take_succ_eq_append_getElem (by omega)]
theorem list_back (l : List ByteArray) (many most : Int) (hl : (l.length : Int) ≤ many) (h255 : l.length ≤ 255) (h : ∀ t ∈ l, (t.size : Int) ≤ most ∧ t.size ≤ 65535) (rest : List UInt8) :
    (⟨⟨(low 1 l.length ++ textsL l ++ rest).toArray⟩, 0⟩ : Rdr).list many most = (l, ⟨⟨rest.toArray⟩, 0⟩) := by
  have hn := num_back 1 l.length (by decide) (by decide) (by show l.length < 256; omega) (textsL l ++ rest)
  have ht := texts_back l most h rest l.length (Nat.le_refl _)
  unfold Rdr.list
  rw [List.append_assoc]
  rw [if_neg (fun h => h rfl)]
  simp only
  rw [show ((1 : Nat) : Int) = 1 from rfl] at hn
  rw [hn]
  simp only [Int.toNat_natCast]
  rw [if_neg (show ¬ (True ∧ many < (l.length : Int)) from fun hh => by omega), ht, if_neg (fun h => h rfl)]
  simp [textsL]
end Go.Proofs.YtafdfmdcnniccaaGreat.oc
namespace Go.Proofs.YtafdfmdcnniccaaGreat.rc
open Go.RowKit
open Go.Proofs.YtafdfmdcnniccaaGreat.oc

/-- What is sealed of a record. -/
def insideL (m : MsgS) : List UInt8 := low 1 m.kind.toNat ++ (low 1 m.queue.toNat ++ (low 1 m.retry.toNat ++ (low 6 m.born.toNat ++ (low 6 m.due.toNat ++ (low 6 m.ref.toNat ++ (textL m.topic ++ (textL m.tag ++ (textL m.body ++ (low 1 m.keys.length ++ textsL m.keys)))))))))
/-- The record of what was sealed, and the reader's end. -/
def openS (s : ByteArray) : MsgS × Rdr :=
  let a1 := (⟨s, 0⟩ : Rdr).num 1
  let a2 := a1.2.num 1
  let a3 := a2.2.num 1
  let a4 := a3.2.num 6
  let a5 := a4.2.num 6
  let a6 := a5.2.num 6
  let b1 := a6.2.text 16
  let b2 := b1.2.text 16
  let b3 := b2.2.text 200
  let c := b3.2.list 3 16
  (⟨a1.1, a2.1, a5.1, a3.1, a6.1, a4.1, b1.1, b2.1, b3.1, c.1⟩, c.2)
/-- Bytes that are a record's are just its bytes. -/
theorem inside_open {s : ByteArray} (h : (openS s).2.end_ = 0) : s = ⟨(insideL (openS s).1).toArray⟩ := by
  unfold openS at h ⊢
  simp only at h ⊢
  unfold Rdr.end_ at h
  generalize ha1 : (⟨s, 0⟩ : Rdr).num 1 = a1 at h ⊢
  generalize ha2 : a1.2.num 1 = a2 at h ⊢
  generalize ha3 : a2.2.num 1 = a3 at h ⊢
  generalize ha4 : a3.2.num 6 = a4 at h ⊢
  generalize ha5 : a4.2.num 6 = a5 at h ⊢
  generalize ha6 : a5.2.num 6 = a6 at h ⊢
  generalize hb1 : a6.2.text 16 = b1 at h ⊢
  generalize hb2 : b1.2.text 16 = b2 at h ⊢
  generalize hb3 : b2.2.text 200 = b3 at h ⊢
  generalize hc : b3.2.list 3 16 = c at h ⊢
  by_cases he : c.2.e ≠ 0
  · rw [if_pos he] at h; exact absurd h he
  rw [if_neg he] at h
  by_cases hz : c.2.s.size = 0
  · have he0 : c.2.e = 0 := by simpa using he
    have oc := (list_over (by rw [hc]; exact he0)).1
    have ob3 := (text_over (by rw [hb3]; rw [← hc] at he0; exact oc.ok)).1
    have ob2 := (text_over (by rw [hb2]; exact ob3.ok)).1
    have ob1 := (text_over (by rw [hb1]; exact ob2.ok)).1
    have oa6 := num_over (n := 6) (by decide) (by decide) (by show (Rdr.num _ 6).2.e = 0; rw [ha6]; exact ob1.ok)
    have oa5 := num_over (n := 6) (by decide) (by decide) (by show (Rdr.num _ 6).2.e = 0; rw [ha5]; exact oa6.ok)
    have oa4 := num_over (n := 6) (by decide) (by decide) (by show (Rdr.num _ 6).2.e = 0; rw [ha4]; exact oa5.ok)
    have oa3 := num_over (n := 1) (by decide) (by decide) (by show (Rdr.num _ 1).2.e = 0; rw [ha3]; exact oa4.ok)
    have oa2 := num_over (n := 1) (by decide) (by decide) (by show (Rdr.num _ 1).2.e = 0; rw [ha2]; exact oa3.ok)
    have oa1 := num_over (n := 1) (by decide) (by decide) (by show (Rdr.num _ 1).2.e = 0; rw [ha1]; exact oa2.ok)
    rw [hc] at oc
    rw [hb3] at ob3
    rw [hb2] at ob2
    rw [hb1] at ob1
    rw [show Rdr.num _ ((6 : Nat) : Int) = a6 from ha6] at oa6
    rw [show Rdr.num _ ((6 : Nat) : Int) = a5 from ha5] at oa5
    rw [show Rdr.num _ ((6 : Nat) : Int) = a4 from ha4] at oa4
    rw [show Rdr.num _ ((1 : Nat) : Int) = a3 from ha3] at oa3
    rw [show Rdr.num _ ((1 : Nat) : Int) = a2 from ha2] at oa2
    rw [show Rdr.num _ ((1 : Nat) : Int) = a1 from ha1] at oa1
    have all := oa1.trans (oa2.trans (oa3.trans (oa4.trans (oa5.trans (oa6.trans (ob1.trans (ob2.trans (ob3.trans oc))))))))
    have hb := all.bytes
    have hn : c.2.s.data.toList = [] := List.eq_nil_of_length_eq_zero (by rw [size_toList]; exact hz)
    rw [hn, List.append_nil] at hb
    apply ba_ext
    exact hb
  · rw [if_neg hz] at h; cases h
/-- A record that fits comes back from its bytes. -/
theorem open_inside (m : MsgS) (h1 : 0 ≤ m.kind ∧ m.kind < 256) (h2 : 0 ≤ m.queue ∧ m.queue < 256) (h3 : 0 ≤ m.retry ∧ m.retry < 256) (h4 : 0 ≤ m.born ∧ m.born < 281474976710656) (h5 : 0 ≤ m.due ∧ m.due < 281474976710656) (h6 : 0 ≤ m.ref ∧ m.ref < 281474976710656)
    (ht : m.topic.size ≤ 16) (hg : m.tag.size ≤ 16) (hb : m.body.size ≤ 200) (hk : m.keys.length ≤ 3) (hks : ∀ s ∈ m.keys, s.size ≤ 16) : openS ⟨(insideL m).toArray⟩ = (m, ⟨⟨#[]⟩, 0⟩) := by
  obtain ⟨kd, q, du, rt, rf, bn, tp, tg, bd, ks⟩ := m
  simp only at *
  have n1 := num_back 1 kd.toNat (by decide) (by decide) (by show _ < 256; omega)
  have n2 := num_back 1 q.toNat (by decide) (by decide) (by show _ < 256; omega)
  have n3 := num_back 1 rt.toNat (by decide) (by decide) (by show _ < 256; omega)
  have n4 := num_back 6 bn.toNat (by decide) (by decide) (by show _ < 281474976710656; omega)
  have n5 := num_back 6 du.toNat (by decide) (by decide) (by show _ < 281474976710656; omega)
  have n6 := num_back 6 rf.toNat (by decide) (by decide) (by show _ < 281474976710656; omega)
  rw [show ((kd.toNat : Nat) : Int) = kd by omega] at n1
  rw [show ((q.toNat : Nat) : Int) = q by omega] at n2
  rw [show ((rt.toNat : Nat) : Int) = rt by omega] at n3
  rw [show ((bn.toNat : Nat) : Int) = bn by omega] at n4
  rw [show ((du.toNat : Nat) : Int) = du by omega] at n5
  rw [show ((rf.toNat : Nat) : Int) = rf by omega] at n6
  have t1 := text_back tp 16 (by omega) (by omega)
  have t2 := text_back tg 16 (by omega) (by omega)
  have t3 := text_back bd 200 (by omega) (by omega)
  have l1 := list_back ks 3 16 (by omega) (by omega) (fun t ht => by have := hks t ht; omega) []
  rw [List.append_nil] at l1
  simp only [show ((1 : Nat) : Int) = 1 from rfl, show ((6 : Nat) : Int) = 6 from rfl] at n1 n2 n3 n4 n5 n6
  unfold openS insideL
  simp only [n1, n2, n3, n4, n5, n6, t1, t2, t3, l1]
end Go.Proofs.YtafdfmdcnniccaaGreat.rc
