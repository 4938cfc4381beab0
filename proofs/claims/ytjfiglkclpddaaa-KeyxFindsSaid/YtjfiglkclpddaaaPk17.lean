/- Layer 11: the example; keys as arguments. -/
import Derived.Test.YtjfiglkclpddaaaRows
import Derived.WalkKit
import Derived.ProofKit
import Derived.OpenShut
import Derived.Handy
import Derived.Deep.LoopGhost
import Derived.Lib.Hide
import Derived.Lib.Strings
import Derived.SizedLaws
import Derived.Maps.Own
import Derived.Maps.OwnOps
import Derived.Maps.OwnSet
import Derived.Maps.RangeWalk
import Derived.Deep.QuietTactic
import Derived.BigQuiet
import Derived.Deep.RegionHeld3
import Derived.Lib.ConvBytes
import Derived.Lib.AppendZeros
import Derived.Lib.AppendZerosOnto
import Derived.Lib.LazyBuf
import Derived.Shelf.Abstract
import Derived.LaidEql
import Derived.Lib.SliceRun
import Derived.StillTailTactics
import Derived.Deep.Slices
import Derived.Laws.MakeOwn
import Derived.Shelf.Strings.Builder1
import Derived.Shelf.Small.Bits
import Derived.Shelf.Small.Wraps
import Derived.Shelf.Strings.BuilderF
import Derived.Shelf.Strings.BuilderK
import Derived.Shelf.Strconv.Itoa0
import Derived.Shelf.Sort.Plain
import Derived.Shelf.GgClosure.StringsIndexFunc
import Derived.Ground.GgwProg
import Derived.Shelf.GgClosure.StringsIndexFuncTop
import Derived.Shelf.GgClosure.StringsRunes
import Derived.Shelf.Strings.Prefix
import Derived.Shelf.Strings.BuilderCap
import Derived.Shelf.Slices.In.SortNone
import Derived.Ground.SlgfProg
import Derived.Shelf.SlicesE.IndexFunc
import Derived.Shelf.SlicesE.DeleteFunc
import Derived.Test.YtjfiglkclpddaaaProg
import Derived.Lib.Builder
import Derived.Lib.AppendStr
import Derived.Shelf.SlIter.Nil
import Derived.Ground.GgzProg
import Derived.Shelf.SortM.Plain
import Derived.Shelf.SortM.SortNone
import Derived.Ground.SlgmProg
import Derived.Lib.SmallJoins
import Derived.Test.YtjfiglkclpddaaaPk16
namespace Go.Proofs.Ytjfiglkclpddaaa.kx
open Go.ChangeShapes Go.WideShapes Go.ChangeAt Go.RowKit
open Go.Proofs.Ytjfiglkclpddaaa.dk Go.Proofs.Ytjfiglkclpddaaa.oc Go.Proofs.Ytjfiglkclpddaaa.en Go.Proofs.Ytjfiglkclpddaaa.wh Go.Proofs.Ytjfiglkclpddaaa.nm

abbrev bA : ByteArray := ⟨#[97]⟩
abbrev bK : ByteArray := ⟨#[107]⟩
theorem ints_two {w : World} {b : Nat} {x y : Int} (h : w.heap[b]? = some (.cells #[.int .i64 x, .int .i64 y] 3 (0, 0))) : IntsAt w (.slice (some ⟨b, 0, none⟩) 2 2) [x, y] :=
  ⟨_, 2, rfl, by simp [maxLen], fun k hk => by
    refine ⟨b, 0, rfl, heap_lt h, ?_⟩
    rw [Nat.zero_add, cell_of h]
    match k, hk with
    | 0, _ => rfl
    | 1, _ => rfl⟩
theorem aw_code (p b : Int) (h : badNum ⟨bA, bK, p, b⟩ = false) : addCode ⟨bA, bK, p, b⟩ = 0 := by
  have h1 : topicB bA = true := by decide
  have h2 : nm.keyB bK = true := by decide
  unfold addCode
  simp only [h1, h2, h]
  rfl
theorem aw_find (v : Nat) : backS [⟨v, 5, 0, 0⟩, ⟨v, 9, 0, 1⟩] (v % 8) (fdStp v 0 9) (fdGo v 0 9) 2 [] = [9, 5] := by
  simp [backS, fdStp, fdGo]
theorem aw_state : addS (addS ([], List.replicate 8 0) ⟨bA, bK, 5, 0⟩) ⟨bA, bK, 9, 0⟩ = ([⟨numK bA bK, 5, 0, 0⟩, ⟨numK bA bK, 9, 0, 1⟩], ((List.replicate 8 0).set (numK bA bK % 8) 1).set (numK bA bK % 8) 2) := by
  have h8 : numK bA bK % 8 < 8 := Nat.mod_lt _ (by decide)
  generalize hv : numK bA bK = v at *
  unfold addS
  rw [if_pos (aw_code 9 0 (by decide)), if_pos (aw_code 5 0 (by decide)), hv]
  simp only [List.length_nil, List.nil_append, List.singleton_append, List.length_singleton]
  rw [List.getD_eq_getElem?_getD, List.getElem?_replicate, if_pos h8, List.getD_eq_getElem?_getD, List.getElem?_set_self (by rw [List.length_replicate]; exact h8)]
  rfl
theorem KxS.find' {x p k : Nat} {W w : World} {s : List Ln × List Nat} (h : KxS x p k W w s) (t o : ByteArray) (least most : Int) (ht : t.size ≤ 255) (ho : o.size ≤ 255) (l : List Int) (hl : backS s.1 (numK t o % 8) (fdStp (numK t o) least most) (fdGo (numK t o) least most) s.1.length [] = l) :
    Calls Try.prog 13 #[ptrTo x, .string t, .string o, .int .i64 least, .int .i64 most] w fun e w' => ∃ v, e = .returned (.tuple #[v, .int .i64 0]) ∧ IntsAt w' v l ∧ From w.heap.size v ∧ Calm w w' := by
  subst hl
  exact h.find t o least most ht ho
set_option maxRecDepth 100000 in
set_option maxHeartbeats 4000000 in
theorem awake_any (W : World) : Calls Try.prog 9 #[] W fun e w' => e = .returned (.bool true) ∧ Calm W w' := by
  go_enter Try.func9, Try.ntmps9
  go_wp2_with fail
  refine (New_ok _ 10000).mono ?_
  rintro e w1 ⟨p, F, rfl, h1, hc1, hF1⟩
  have H1 := box h1
  have O1 := box ((Owns.refl W).new hc1 hF1)
  clear h1 hc1 hF1
  go_wp2_with fail
  refine (New_step W _ 10000 (by decide) p F H1.out O1.out).mono ?_
  rintro e w2 ⟨x, rfl, hS2⟩
  have S2 := box hS2
  clear hS2
  go_wp2_with fail
  refine (Add_step x p 0 W _ _ ⟨bA, bK, 5, 0⟩ S2.out (by decide) (by decide) (by decide)).mono ?_
  rw [aw_code 5 0 (by decide)]
  rintro e w3 ⟨rfl, hS3⟩
  have S3 := box hS3
  clear hS3
  go_wp2_with fail
  refine (Add_step x p 1 W _ _ ⟨bA, bK, 9, 0⟩ S3.out (by decide) (by decide) (by decide)).mono ?_
  rw [aw_code 9 0 (by decide), aw_state]
  rintro e w4 ⟨rfl, hS4⟩
  have S4 := box hS4
  clear hS4
  go_wp2_with fail
  refine (S4.out.find' bA bK 0 9 (by decide) (by decide) [9, 5] (aw_find _)).mono ?_
  rintro e w5 ⟨v, rfl, hI, hF, hc5⟩
  obtain ⟨a, cap, rfl, _⟩ := id hI
  have HI := box (hI.calm ((Calm.refl w5).alloc (.cells #[.int .i64 9, .int .i64 5] 3)))
  have HC := box ((S4.out.owns.trans hc5).trans ((Calm.refl w5).alloc (.cells #[.int .i64 9, .int .i64 5] 3)))
  clear hI hF hc5
  go_wp2_with fail
  refine (Ints_any _ _ _ [9, 5] _ HI.out (ints_two (heap_new w5 _))).mono ?_
  rintro e w6 ⟨rfl, hc6⟩
  have HC6 := box (HC.out.trans hc6)
  clear hc6
  go_wp2_with fail
  go_ret
  exact ⟨ret_bool (by simp), HC6.out⟩
/-- A key as an argument. -/
def AddR : Reads AddS := fun _ cs a => cs = [.string a.topic, .string a.key, .int .i64 a.pos, .int .i64 a.born] ∧ a.topic.size ≤ maxLen ∧ a.key.size ≤ maxLen ∧ (-9223372036854775808 ≤ a.pos ∧ a.pos ≤ 9223372036854775807) ∧ -9223372036854775808 ≤ a.born ∧ a.born ≤ 9223372036854775807
theorem AddR.lasts : AddR.Lasts := fun _ _ _ _ h _ => h
set_option maxRecDepth 100000 in
theorem opens_add : Opens Try.prog 39 AddR := fun H enc w base sp held fuel cs x h => by
  obtain ⟨xs, n, _, _, hlen, hxl, hg⟩ := DataW.trod_struct Try.underlying39 h
  rw [show Try.prog.cellsOf 39 = 4 by kernel_rfl] at hlen
  match cs, hlen with
  | [c0, c1, c2, c3], _ =>
    simp only [List.size_toArray, List.length_cons, List.length_nil] at hxl
    have g0 := hg 0 _ rfl
    have g1 := hg 1 _ rfl
    have g2 := hg 2 _ rfl
    have g3 := hg 3 _ rfl
    clear hg
    rw [List.getElem?_eq_getElem (by omega)] at g0 g1 g2 g3
    obtain ⟨a, ha, ha2⟩ := opens_string Try.underlying9 _ _ _ _ _ _ _ _ _ g0
    obtain ⟨b, hb, hb2⟩ := opens_string Try.underlying9 _ _ _ _ _ _ _ _ _ g1
    obtain ⟨k, hk, hk2, hk3⟩ := opens_int Try.underlying3 _ _ _ _ _ _ _ _ _ g2
    obtain ⟨m, hm, hm2, hm3⟩ := opens_int Try.underlying3 _ _ _ _ _ _ _ _ _ g3
    have n1 : Try.prog.cellsOf 3 = 1 := by kernel_rfl
    have n2 : Try.prog.cellsOf 9 = 1 := by kernel_rfl
    refine ⟨⟨a, b, k, m⟩, ?_, ha2, hb2, ⟨hk2, hk3⟩, hm2, hm3⟩
    simp [n1, n2] at ha hb hk hm
    subst ha hb hk hm
    rfl
theorem RowsAt.adds {w : World} {v : Value} {l : List AddS} (h : RowsAt AddR 4 w v l) : ∃ a cap, v = .slice a l.length cap ∧ l.length ≤ maxLen ∧ ∀ i (hi : i < l.length), ∃ b off, a = some ⟨b, off, none⟩ ∧ b < w.heap.size ∧
    w.cell? ⟨b, off + i * 4, none⟩ = some (.string l[i].topic) ∧ w.cell? ⟨b, off + i * 4 + 1, none⟩ = some (.string l[i].key) ∧ w.cell? ⟨b, off + i * 4 + 2, none⟩ = some (.int .i64 l[i].pos) ∧ w.cell? ⟨b, off + i * 4 + 3, none⟩ = some (.int .i64 l[i].born) ∧
    l[i].topic.size ≤ maxLen ∧ l[i].key.size ≤ maxLen ∧ (-9223372036854775808 ≤ l[i].pos ∧ l[i].pos ≤ 9223372036854775807) ∧ -9223372036854775808 ≤ l[i].born ∧ l[i].born ≤ 9223372036854775807 := by
  obtain ⟨a, cap, rfl, h2, h3, h4⟩ := h
  refine ⟨a, cap, rfl, by omega, fun i hi => ?_⟩
  obtain ⟨b, off, cs, e, hb, hl, hcell, hr, hm⟩ := h4 i hi
  subst hr
  exact ⟨b, off, e, hb, hcell 0 (by omega), hcell 1 (by omega), hcell 2 (by omega), hcell 3 (by omega), hm⟩
end Go.Proofs.Ytjfiglkclpddaaa.kx

/- Layer 11: what the laws need: adding keeps what is of another type; a key's number; rows of keys. -/
namespace Go.Proofs.Ytjfiglkclpddaaa.kx
open Go.ChangeShapes Go.WideShapes Go.ChangeAt Go.RowKit
open Go.Proofs.Ytjfiglkclpddaaa.dk Go.Proofs.Ytjfiglkclpddaaa.oc Go.Proofs.Ytjfiglkclpddaaa.en Go.Proofs.Ytjfiglkclpddaaa.wh Go.Proofs.Ytjfiglkclpddaaa.nm

theorem struct_shape {P : Program} {w : World} {r : Reach} {b : Nat} {t : TypeId} {v : Value} {fs : Array Field} (ht : P.underlying t = some (.struct fs)) (h : Value.okWide P w r b t v) : ∃ cs, v = .agg cs := by
  obtain ⟨cs, h1, _⟩ := okWide_struct ht h; exact ⟨cs, h1⟩
theorem array_shape {P : Program} {w : World} {r : Reach} {b : Nat} {t e : TypeId} {n : Nat} {v : Value} (ht : P.underlying t = some (.array n e)) (h : Value.okWide P w r b t v) : ∃ cs, v = .agg cs := by
  simp only [Value.okWide, ht] at h
  obtain ⟨cs, h1, _⟩ := h
  exact ⟨cs, h1⟩
theorem add_arg {w : World} {v : Value} (hv : ∃ cs, v = .agg cs) (h : ∃ y, AddR w v.cells.toList y) : ∃ y : AddS, v = .agg #[.string y.topic, .string y.key, .int .i64 y.pos, .int .i64 y.born] ∧ AddR w v.cells.toList y := by
  obtain ⟨cs, rfl⟩ := hv
  obtain ⟨y, hy⟩ := h
  refine ⟨y, ?_, hy⟩
  have := hy.1
  simp only [Value.cells] at this
  rw [show cs = #[.string y.topic, .string y.key, .int .i64 y.pos, .int .i64 y.born] from Array.toList_inj.1 this]
theorem pair_arg {w : World} {v : Value} {k : IntKind} (hv : ∃ cs, v = .agg cs) (h : ∃ y, PairR k w v.cells.toList y) : ∃ y : Int × Int, v = .agg #[.int k y.1, .int k y.2] ∧ PairR k w v.cells.toList y := by
  obtain ⟨cs, rfl⟩ := hv
  obtain ⟨y, hy⟩ := h
  refine ⟨y, ?_, hy⟩
  have := hy.1
  simp only [Value.cells] at this
  rw [show cs = #[.int k y.1, .int k y.2] from Array.toList_inj.1 this]

/-- Blocks of another type than a disk's and an index's. -/
def Other (T : TypeId) : Prop := T ≠ 78 ∧ T ≠ 113 ∧ T ≠ 110 ∧ T ≠ 70
def KeepsT (T : TypeId) (w w' : World) : Prop := ∀ (b : Nat) (cur : Array Value), w.heap[b]? = some (Obj.cells cur T (0, 0)) → w'.heap[b]? = some (Obj.cells cur T (0, 0))
theorem KeepsT.calm {T : TypeId} {w w' : World} (h : Calm w w') : KeepsT T w w' := fun b cur hb => heap_calm h hb
theorem KeepsT.trans {T : TypeId} {a b c : World} (h : KeepsT T a b) (k : KeepsT T b c) : KeepsT T a c := fun x cur hb => k x cur (h x cur hb)
theorem other_apart {w : World} {x p m n b : Nat} {D : DiskS} {F : Nat → Prop} {T : TypeId} {cur : Array Value} (h : DiskOk w p D F n) (hx : IdxAt w x p m) (hT : Other T) (hb : w.heap[b]? = some (.cells cur T (0, 0))) : ¬ (F b ∨ b = x) := fun hf => by
  obtain ⟨mb, wv, h1, rfl⟩ := h.lies
  obtain ⟨t1, t2, t3, t4⟩ := hT
  rcases hf with (rfl | rfl | hf | hf) | rfl
  · rw [h1.obj] at hb; simp only [Option.some.injEq, Obj.cells.injEq] at hb; exact t1 hb.2.1.symm
  · obtain ⟨es, c, hm, _⟩ := h1.map; rw [hm] at hb; cases hb
  · obtain ⟨c, hc⟩ := own_row h1.waits hf; rw [hc] at hb; simp only [Option.some.injEq, Obj.cells.injEq] at hb; exact t2 hb.2.1.symm
  · obtain ⟨f, hf', rfl⟩ := List.mem_map.1 hf
    rw [h1.files f hf'] at hb; simp only [Option.some.injEq, Obj.cells.injEq] at hb; exact t3 hb.2.1.symm
  · unfold IdxAt at hx; rw [hx] at hb; simp only [Option.some.injEq, Obj.cells.injEq] at hb; exact t4 hb.2.1.symm
theorem Add_step2 (x p k : Nat) (W w : World) (s : List Ln × List Nat) (a : AddS) (h : KxS x p k W w s) (hk : k < 400) (ht : a.topic.size ≤ 255) (hks : a.key.size ≤ 255) :
    Calls Try.prog 12 #[ptrTo x, .string a.topic, .string a.key, .int .i64 a.pos, .int .i64 a.born] w fun e w' => e = .returned (.int .i64 (addCode a)) ∧ KxS x p (k + 1) W w' (addS s a) ∧ ∀ T, Other T → KeepsT T w w' := by
  cases hn : topicB a.topic && nm.keyB a.key
  · have hc : addCode a = 11 := by unfold addCode; rw [hn]; rfl
    have hs : addS s a = s := by unfold addS; rw [hc]; rfl
    rw [hc, hs]
    exact (Add_name x a.topic a.key a.pos a.born w hn hks).mono fun e w' ⟨he, hcalm⟩ => ⟨he, (h.calm hcalm).mono (Nat.le_succ _), fun T _ => .calm hcalm⟩
  · have hn' := hn
    rw [Bool.and_eq_true] at hn'
    cases hb : badNum a
    · have hc : addCode a = 0 := by unfold addCode; rw [hn, hb]; rfl
      obtain ⟨D, F, h1, h2, h3, h4, h5, h6, h7, h8⟩ := h
      unfold badNum at hb
      simp only [Bool.or_eq_false_iff, decide_eq_false_iff_not] at hb
      obtain ⟨⟨⟨b1, b2⟩, b3⟩, b4⟩ := hb
      have e1 : a.pos = ((a.pos.toNat : Nat) : Int) := by omega
      have e2 : a.born = ((a.born.toNat : Nat) : Int) := by omega
      have hadd := Add_any x a.topic a.key a.pos.toNat a.born.toNat w h1 (by omega) h2 (by omega) (by omega) h5 h6 hn'.1 hn'.2 ht hks (by omega) (by omega)
      rw [← e1, ← e2] at hadd
      rw [hc]
      refine hadd.mono fun e w' hd => ?_
      obtain ⟨he, D', F', g1, g2, g3, g4, g5⟩ := hd
      have hs : addS s a = (s.1 ++ [⟨numK a.topic a.key, a.pos.toNat, a.born.toNat, s.2.getD (numK a.topic a.key % 8) 0⟩], s.2.set (numK a.topic a.key % 8) (s.1.length + 1)) := by unfold addS; rw [if_pos hc]
      rw [hs]
      refine ⟨he, ⟨D', F', g1.mono (by omega), g2, h3.add h2.len _ _ _, by omega, ?_, idx_apart g1 g4, h7.step g5, ?_⟩, fun T hT b cur hb => g5.same hb (other_apart h1 h5 hT hb)⟩
      · simp only [List.length_append, List.length_singleton]; exact g4
      · simp only [List.length_append, List.length_singleton]; omega
    · have hc : addCode a = 1 := by unfold addCode; rw [hn, hb]; rfl
      have hs : addS s a = s := by unfold addS; rw [hc]; rfl
      rw [hc, hs]
      exact (Add_arg x a.topic a.key a.pos a.born w hn'.1 hn'.2 hks hb).mono fun e w' ⟨he, hcalm⟩ => ⟨he, (h.calm hcalm).mono (Nat.le_succ _), fun T _ => .calm hcalm⟩

/-- The document's number of a key. -/
theorem rnumber_any (t k : ByteArray) (w : World) (ht : t.size ≤ 255) (hk : k.size ≤ 255) :
    Calls Try.prog 17 #[.string t, .string k] w fun e w' => e = .returned (.int .i64 (numK t k : Int)) ∧ w = w' := by
  have hh := box (fun (s : ByteArray) (hs : s.data.toList = flatS [t, ⟨#[35]⟩, k]) (W : World) => (show Calls Try.prog 41 #[.string s] W fun e w' => e = .returned (.int .i64 (numK t k : Int)) ∧ W = w' by
    have hsz : s.size ≤ maxLen := by
      have := congrArg List.length hs
      simp [flatS] at this
      unfold maxLen
      omega
    have := rHash_any s W hsz
    rw [hs] at this
    exact this))
  go_enter Try.func17, Try.ntmps17
  go_wp2_with fail
  refine Calls.mono (hh.out _ ?_ _) ?_
  · simp [flatS]
  rintro e w1 ⟨rfl, rfl⟩
  go_wp2_with fail
  go_ret
  exact ⟨rfl, rfl⟩

def encA (a : AddS) : List Value := [.string a.topic, .string a.key, .int .i64 a.pos, .int .i64 a.born]
theorem encA_length (l : List AddS) : (l.flatMap encA).length = l.length * 4 := by
  induction l with
  | nil => rfl
  | cons a l ih => simp [encA, ih]; omega
theorem encA_get : ∀ (L : List AddS) (j : Nat) (hj : j < L.length), (L.flatMap encA)[j * 4]? = some (.string L[j].topic) ∧ (L.flatMap encA)[j * 4 + 1]? = some (.string L[j].key) ∧ (L.flatMap encA)[j * 4 + 2]? = some (.int .i64 L[j].pos) ∧ (L.flatMap encA)[j * 4 + 3]? = some (.int .i64 L[j].born)
  | x :: L, 0, _ => by simp [encA]
  | x :: L, j + 1, hj => by
    have := encA_get L j (by simpa using hj)
    simp only [List.flatMap_cons, List.getElem_cons_succ]
    have e : ∀ k, (encA x ++ L.flatMap encA)[(j + 1) * 4 + k]? = (L.flatMap encA)[j * 4 + k]? := fun k => by
      rw [List.getElem?_append_right (by simp [encA]; omega)]; congr 1; simp [encA]; omega
    have e0 := e 0
    simp only [Nat.add_zero] at e0
    rw [e0, e 1, e 2, e 3]; exact this
abbrev addRow (B : Nat) (w : World) (v : Value) (l : List AddS) : Prop := w.ownsRow B 39 4 v l.length (l.flatMap encA)
theorem addRow.shape {B : Nat} {w : World} {v : Value} {l : List AddS} (h : addRow B w v l) : ∃ a cap, v = .slice a l.length cap ∧ ∀ i (hi : i < l.length), ∃ b, a = some ⟨b, 0, none⟩ ∧ b < w.heap.size ∧
    w.cell? ⟨b, i * 4, none⟩ = some (.string l[i].topic) ∧ w.cell? ⟨b, i * 4 + 1, none⟩ = some (.string l[i].key) ∧ w.cell? ⟨b, i * 4 + 2, none⟩ = some (.int .i64 l[i].pos) ∧ w.cell? ⟨b, i * 4 + 3, none⟩ = some (.int .i64 l[i].born) := by
  rcases h.2 with ⟨rfl, hn⟩ | ⟨g, cap, cur, rfl, hb, hg, hnc, hcm, hcs, htake⟩
  · exact ⟨none, 0, by rw [hn], fun i hi => by omega⟩
  · refine ⟨_, cap, rfl, fun i hi => ⟨g, rfl, heap_lt hg, ?_⟩⟩
    have hc : ∀ j u, (l.flatMap encA)[j]? = some u → w.cell? ⟨g, j, none⟩ = some u := fun j u hj => by
      have := h.cells (g := g) rfl j u hj
      rwa [add_lit] at this
    obtain ⟨h0, h1, h2, h3⟩ := encA_get l i hi
    exact ⟨hc _ _ h0, hc _ _ h1, hc _ _ h2, hc _ _ h3⟩
theorem infoAdd : (Try.prog.info? 39).map (fun i => (i.zero, i.size, i.bytes)) = some (some (.agg #[.string ⟨#[]⟩, .string ⟨#[]⟩, .int .i64 0, .int .i64 0]), 4, 48) := by kernel_rfl
theorem append_add (B : Nat) (w : World) (v : Value) (L : List AddS) (x : AddS) (h : addRow B w v L) (hB : B ≤ w.heap.size) (hl : L.length ≤ 1000000) (ty : TypeId) :
    ∃ v' w', (Builtin.append_ #[37, 37] ty #[v, .slice (some ⟨w.heap.size, 0, none⟩) 1 1]).run Try.prog (w.alloc (.cells #[.string x.topic, .string x.key, .int .i64 x.pos, .int .i64 x.born] 39)) = .ok v' w' ∧ addRow B w' v' (L ++ [x]) ∧
      Keeps (fun g => v.ownBlock = some g) w w' := by
  obtain ⟨i0, hi, hz0, hz1, hz2⟩ := info_parts infoAdd
  have hb := heap_new w (.cells #[.string x.topic, .string x.key, .int .i64 x.pos, .int .i64 x.born] 39)
  obtain ⟨v', w', h1, h2, h3, h4⟩ := append_own (P := Try.prog) (w.alloc (.cells #[.string x.topic, .string x.key, .int .i64 x.pos, .int .i64 x.born] 39)) 37 ty 39 i0 _ 4 48 Try.underlying37 hi hz0 hz1 hz2 (by kernel_rfl) (by decide) v L.length _ (row_zero (h.alloc _)) ⟨w.heap.size, 0, none⟩ 1 1 (by decide) (encA x) rfl (fun j u hj => by
      rw [add_lit, cell_of hb]
      match j, hj with
      | 0, hj => exact hj
      | 1, hj => exact hj
      | 2, hj => exact hj
      | 3, hj => exact hj
      | k + 4, hj => simp [encA] at hj) (fun u hu => by
      rcases List.mem_cons.1 hu with rfl | hu
      · rfl
      rcases List.mem_cons.1 hu with rfl | hu
      · rfl
      rcases List.mem_cons.1 hu with rfl | hu
      · rfl
      rcases List.mem_cons.1 hu with rfl | hu
      · rfl
      cases hu) (by simp only [maxLen]; omega) (by omega)
  refine ⟨v', w', h1, ?_, ?_⟩
  · show w'.ownsRow B _ 4 v' (L ++ [x]).length ((L ++ [x]).flatMap encA)
    refine row_base ?_ (fun g e => ?_)
    rotate_left
    · rcases h4 with h4 | h4
      · exact (h.lt g (h4.symm.trans e)).1
      · rw [h4] at e; cases e; simp; omega
    rw [List.flatMap_append, List.length_append]
    simpa using h2
  · exact (((Keeps.refl (fun g => v.ownBlock = some g) w).alloc _).trans' (h3.mono (fun b _ h => h)))
theorem addRow.keep {B : Nat} {w w' : World} {v : Value} {l : List AddS} (h : addRow B w v l) (k : KeepsT 39 w w') : addRow B w' v l := by
  refine ⟨h.1, ?_⟩
  rcases h.2 with h2 | ⟨g, cap, cur, rfl, h3, h4, h5⟩
  · exact .inl h2
  · exact .inr ⟨g, cap, cur, rfl, h3, k g cur h4, h5⟩
theorem KxS.keepG {x p k : Nat} {W w w' : World} {s : List Ln × List Nat} {G : Nat → Prop} (h : KxS x p k W w s) (hk : Keeps G w w') (hG : ∀ b, G b → W.heap.size ≤ b ∧ ∃ T cur, Other T ∧ w.heap[b]? = some (Obj.cells cur T (0, 0))) : KxS x p k W w' s := by
  obtain ⟨D, F, h1, h2, h3, h4, h5, h6, h7, h8⟩ := h
  have hap : ∀ b, (F b ∨ b = x) → ¬ G b := fun b hf hg => by
    obtain ⟨_, T, cur, hT, hb⟩ := hG b hg
    exact other_apart h1 h5 hT hb hf
  exact ⟨D, F, h1.keep hk (fun b hf => hap b (.inl hf)), h2, h3, h4, h5.keep hk (hap x (.inr rfl)), h6, ⟨Below.trans h7.calm (hk.below h7.calm.size (fun b hg => (hG b hg).1)), h7.foot⟩, h8⟩
theorem KeepsT.of_keeps {T T' : TypeId} {w w' : World} {G : Nat → Prop} (hk : Keeps G w w') (hG : ∀ b, G b → ∃ cur, w.heap[b]? = some (Obj.cells cur T' (0, 0))) (hne : T ≠ T') : KeepsT T w w' := fun b cur hb =>
  (hk.block b (heap_lt hb) (fun hg => by
    obtain ⟨c, hc⟩ := hG b hg
    rw [hc] at hb
    simp only [Option.some.injEq, Obj.cells.injEq] at hb
    exact hne hb.2.1.symm)).trans hb
theorem other_add : Other 39 := by unfold Other; decide
theorem other_int : Other 3 := by unfold Other; decide

/-- The entries are those keys. -/
def Alike (E : List Ln) (A : List AddS) : Prop := E.length = A.length ∧ ∀ i (h : i < E.length) (h' : i < A.length), E[i].h = numK A[i].topic A[i].key ∧ (E[i].pos : Int) = A[i].pos
theorem Alike.add {E : List Ln} {A : List AddS} (h : Alike E A) (a : AddS) (hp : 0 ≤ a.pos) (g b : Nat) : Alike (E ++ [⟨numK a.topic a.key, a.pos.toNat, b, g⟩]) (A ++ [a]) := by
  obtain ⟨hl, h⟩ := h
  refine ⟨by simp [hl], fun i hi hi' => ?_⟩
  by_cases hlt : i < E.length
  · rw [List.getElem_append_left hlt, List.getElem_append_left (by omega)]
    exact h i hlt (by omega)
  · have hi1 : i = E.length := by rw [List.length_append, List.length_singleton] at hi; omega
    subst hi1
    rw [List.getElem_append_right (Nat.le_refl _), List.getElem_append_right (by omega)]
    simp only [Nat.sub_self, hl, List.getElem_cons_zero]
    exact ⟨trivial, by omega⟩
theorem back_full (E : List Ln) (b v : Nat) (least most : Int) : ∀ (j : Nat) (out : List Int), ¬ (out.length : Int) < most → backS E b (fdStp v least most) (fdGo v least most) j out = out
  | 0, _, _ => rfl
  | i + 1, out, h => by
    have ih := back_full E b v least most i out h
    have hst : ∀ n e, fdStp v least most out n e = out := fun n e => by unfold fdStp; rw [if_neg (fun hc => h hc.2.2)]
    have hgo : ∀ n e, fdGo v least most out n e = false := fun n e => by unfold fdGo; rw [hst, decide_eq_false h]; rfl
    unfold backS
    split
    · exact ih
    · split
      · rw [hgo, hst]; rfl
      · exact ih
/-- A step back, in each case. -/
theorem back_step {E : List Ln} {b v : Nat} {least most : Int} {i : Nat} {out : List Int} {e : Ln} (he : E[i]? = some e) (hm : (out.length : Int) < most) :
    (e.h % 8 ≠ b → backS E b (fdStp v least most) (fdGo v least most) (i + 1) out = backS E b (fdStp v least most) (fdGo v least most) i out) ∧
    (e.h % 8 = b → (e.pos : Int) < least → backS E b (fdStp v least most) (fdGo v least most) (i + 1) out = out) ∧
    (e.h % 8 = b → ¬ (e.pos : Int) < least → e.h ≠ v → backS E b (fdStp v least most) (fdGo v least most) (i + 1) out = backS E b (fdStp v least most) (fdGo v least most) i out) ∧
    (e.h % 8 = b → ¬ (e.pos : Int) < least → e.h = v → backS E b (fdStp v least most) (fdGo v least most) (i + 1) out = backS E b (fdStp v least most) (fdGo v least most) i (out ++ [(e.pos : Int)])) := by
  refine ⟨fun h => ?_, fun h h2 => ?_, fun h h2 h3 => ?_, fun h h2 h3 => ?_⟩
  · rw [backS, he]; simp only; rw [if_neg h]
  · have hst : fdStp v least most out (i + 1) e = out := by unfold fdStp; rw [if_neg (fun hc => by omega)]
    have hgo : fdGo v least most out (i + 1) e = false := by unfold fdGo; rw [decide_eq_false (show ¬ least ≤ (e.pos : Int) by omega), Bool.and_false]
    rw [backS, he]; simp only; rw [if_pos h, hgo, hst]; rfl
  · have hst : fdStp v least most out (i + 1) e = out := by unfold fdStp; rw [if_neg (fun hc => h3 hc.1)]
    have hgo : fdGo v least most out (i + 1) e = true := by unfold fdGo; rw [hst, decide_eq_true hm, decide_eq_true (show least ≤ (e.pos : Int) by omega)]; rfl
    rw [backS, he]; simp only; rw [if_pos h, hgo, hst]; rfl
  · have hst : fdStp v least most out (i + 1) e = out ++ [(e.pos : Int)] := by unfold fdStp; rw [if_pos ⟨h3, by omega, hm⟩]
    rw [backS, he]; simp only; rw [if_pos h, hst]
    split
    · rfl
    · rename_i hg
      refine (back_full E b v least most i _ (fun hl => hg ?_)).symm
      unfold fdGo; rw [hst, decide_eq_true hl, decide_eq_true (show least ≤ (e.pos : Int) by omega)]; rfl
end Go.Proofs.Ytjfiglkclpddaaa.kx
