/- Layer 11: the example; keys as arguments. -/
import Derived.Test.YtjfiglkclpddaaaRows
import Derived.WalkKit
import Derived.ProofKit
import Derived.OpenShut
import Derived.Handy
import Derived.Deep.LoopGhost
import Derived.Lib.Hide
import Derived.Lib.Strings
import Derived.SizedLaws
import Derived.Maps.Own
import Derived.Maps.OwnOps
import Derived.Maps.OwnSet
import Derived.Maps.RangeWalk
import Derived.Deep.QuietTactic
import Derived.BigQuiet
import Derived.Deep.RegionHeld3
import Derived.Lib.ConvBytes
import Derived.Lib.AppendZeros
import Derived.Lib.AppendZerosOnto
import Derived.Lib.LazyBuf
import Derived.Shelf.Abstract
import Derived.LaidEql
import Derived.Lib.SliceRun
import Derived.StillTailTactics
import Derived.Deep.Slices
import Derived.Laws.MakeOwn
import Derived.Shelf.Strings.Builder1
import Derived.Shelf.Small.Bits
import Derived.Shelf.Small.Wraps
import Derived.Shelf.Strings.BuilderF
import Derived.Shelf.Strings.BuilderK
import Derived.Shelf.Strconv.Itoa0
import Derived.Shelf.Sort.Plain
import Derived.Shelf.GgClosure.StringsIndexFunc
import Derived.Ground.GgwProg
import Derived.Shelf.GgClosure.StringsIndexFuncTop
import Derived.Shelf.GgClosure.StringsRunes
import Derived.Shelf.Strings.Prefix
import Derived.Shelf.Strings.BuilderCap
import Derived.Shelf.Slices.In.SortNone
import Derived.Ground.SlgfProg
import Derived.Shelf.SlicesE.IndexFunc
import Derived.Shelf.SlicesE.DeleteFunc
import Derived.Test.YtjfiglkclpddaaaProg
import Derived.Lib.Builder
import Derived.Lib.AppendStr
import Derived.Shelf.SlIter.Nil
import Derived.Ground.GgzProg
import Derived.Shelf.SortM.Plain
import Derived.Shelf.SortM.SortNone
import Derived.Ground.SlgmProg
import Derived.Lib.SmallJoins
import Derived.Test.YtjfiglkclpddaaaPk16
namespace Go.Proofs.Ytjfiglkclpddaaa.kx
open Go.ChangeShapes Go.WideShapes Go.ChangeAt Go.RowKit
open Go.Proofs.Ytjfiglkclpddaaa.dk Go.Proofs.Ytjfiglkclpddaaa.oc Go.Proofs.Ytjfiglkclpddaaa.en Go.Proofs.Ytjfiglkclpddaaa.wh Go.Proofs.Ytjfiglkclpddaaa.nm

abbrev bA : ByteArray := ⟨#[97]⟩
abbrev bK : ByteArray := ⟨#[107]⟩
theorem ints_two {w : World} {b : Nat} {x y : Int} (h : w.heap[b]? = some (.cells #[.int .i64 x, .int .i64 y] 3 (0, 0))) : IntsAt w (.slice (some ⟨b, 0, none⟩) 2 2) [x, y] :=
  ⟨_, 2, rfl, by simp [maxLen], fun k hk => by
    refine ⟨b, 0, rfl, heap_lt h, ?_⟩
    rw [Nat.zero_add, cell_of h]
    match k, hk with
    | 0, _ => rfl
    | 1, _ => rfl⟩
theorem aw_code (p b : Int) (h : badNum ⟨bA, bK, p, b⟩ = false) : addCode ⟨bA, bK, p, b⟩ = 0 := by
  have h1 : topicB bA = true := by decide
  have h2 : nm.keyB bK = true := by decide
  unfold addCode
  simp only [h1, h2, h]
  rfl
theorem aw_find (v : Nat) : backS [⟨v, 5, 0, 0⟩, ⟨v, 9, 0, 1⟩] (v % 8) (fdStp v 0 9) (fdGo v 0 9) 2 [] = [9, 5] := by
  simp [backS, fdStp, fdGo]
theorem aw_state : addS (addS ([], List.replicate 8 0) ⟨bA, bK, 5, 0⟩) ⟨bA, bK, 9, 0⟩ = ([⟨numK bA bK, 5, 0, 0⟩, ⟨numK bA bK, 9, 0, 1⟩], ((List.replicate 8 0).set (numK bA bK % 8) 1).set (numK bA bK % 8) 2) := by
  have h8 : numK bA bK % 8 < 8 := Nat.mod_lt _ (by decide)
  generalize hv : numK bA bK = v at *
  unfold addS
  rw [if_pos (aw_code 9 0 (by decide)), if_pos (aw_code 5 0 (by decide)), hv]
  simp only [List.length_nil, List.nil_append, List.singleton_append, List.length_singleton]
  rw [List.getD_eq_getElem?_getD, List.getElem?_replicate, if_pos h8, List.getD_eq_getElem?_getD, List.getElem?_set_self (by rw [List.length_replicate]; exact h8)]
  rfl
theorem KxS.find' {x p k : Nat} {W w : World} {s : List Ln × List Nat} (h : KxS x p k W w s) (t o : ByteArray) (least most : Int) (ht : t.size ≤ 255) (ho : o.size ≤ 255) (l : List Int) (hl : backS s.1 (numK t o % 8) (fdStp (numK t o) least most) (fdGo (numK t o) least most) s.1.length [] = l) :
    Calls Try.prog 13 #[ptrTo x, .string t, .string o, .int .i64 least, .int .i64 most] w fun e w' => ∃ v, e = .returned (.tuple #[v, .int .i64 0]) ∧ IntsAt w' v l ∧ From w.heap.size v ∧ Calm w w' := by
  subst hl
  exact h.find t o least most ht ho
set_option maxRecDepth 100000 in
set_option maxHeartbeats 4000000 in
theorem awake_any (W : World) : Calls Try.prog 9 #[] W fun e w' => e = .returned (.bool true) ∧ Calm W w' := by
  go_enter Try.func9, Try.ntmps9
  go_wp2_with fail
  refine (New_ok _ 10000).mono ?_
  rintro e w1 ⟨p, F, rfl, h1, hc1, hF1⟩
  have H1 := box h1
  have O1 := box ((Owns.refl W).new hc1 hF1)
  clear h1 hc1 hF1
  go_wp2_with fail
  refine (New_step W _ 10000 (by decide) p F H1.out O1.out).mono ?_
  rintro e w2 ⟨x, rfl, hS2⟩
  have S2 := box hS2
  clear hS2
  go_wp2_with fail
  refine (Add_step x p 0 W _ _ ⟨bA, bK, 5, 0⟩ S2.out (by decide) (by decide) (by decide)).mono ?_
  rw [aw_code 5 0 (by decide)]
  rintro e w3 ⟨rfl, hS3⟩
  have S3 := box hS3
  clear hS3
  go_wp2_with fail
  refine (Add_step x p 1 W _ _ ⟨bA, bK, 9, 0⟩ S3.out (by decide) (by decide) (by decide)).mono ?_
  rw [aw_code 9 0 (by decide), aw_state]
  rintro e w4 ⟨rfl, hS4⟩
  have S4 := box hS4
  clear hS4
  go_wp2_with fail
  refine (S4.out.find' bA bK 0 9 (by decide) (by decide) [9, 5] (aw_find _)).mono ?_
  rintro e w5 ⟨v, rfl, hI, hF, hc5⟩
  obtain ⟨a, cap, rfl, _⟩ := id hI
  have HI := box (hI.calm ((Calm.refl w5).alloc (.cells #[.int .i64 9, .int .i64 5] 3)))
  have HC := box ((S4.out.owns.trans hc5).trans ((Calm.refl w5).alloc (.cells #[.int .i64 9, .int .i64 5] 3)))
  clear hI hF hc5
  go_wp2_with fail
  refine (Ints_any _ _ _ [9, 5] _ HI.out (ints_two (heap_new w5 _))).mono ?_
  rintro e w6 ⟨rfl, hc6⟩
  have HC6 := box (HC.out.trans hc6)
  clear hc6
  go_wp2_with fail
  go_ret
  exact ⟨ret_bool (by simp), HC6.out⟩
/-- A key as an argument. -/
def AddR : Reads AddS := fun _ cs a => cs = [.string a.topic, .string a.key, .int .i64 a.pos, .int .i64 a.born] ∧ a.topic.size ≤ maxLen ∧ a.key.size ≤ maxLen ∧ (-9223372036854775808 ≤ a.pos ∧ a.pos ≤ 9223372036854775807) ∧ -9223372036854775808 ≤ a.born ∧ a.born ≤ 9223372036854775807
theorem AddR.lasts : AddR.Lasts := fun _ _ _ _ h _ => h
set_option maxRecDepth 100000 in
theorem opens_add : Opens Try.prog 39 AddR := fun H enc w base sp held fuel cs x h => by
  obtain ⟨xs, n, _, _, hlen, hxl, hg⟩ := DataW.trod_struct Try.underlying39 h
  rw [show Try.prog.cellsOf 39 = 4 by kernel_rfl] at hlen
  match cs, hlen with
  | [c0, c1, c2, c3], _ =>
    simp only [List.size_toArray, List.length_cons, List.length_nil] at hxl
    have g0 := hg 0 _ rfl
    have g1 := hg 1 _ rfl
    have g2 := hg 2 _ rfl
    have g3 := hg 3 _ rfl
    clear hg
    rw [List.getElem?_eq_getElem (by omega)] at g0 g1 g2 g3
    obtain ⟨a, ha, ha2⟩ := opens_string Try.underlying9 _ _ _ _ _ _ _ _ _ g0
    obtain ⟨b, hb, hb2⟩ := opens_string Try.underlying9 _ _ _ _ _ _ _ _ _ g1
    obtain ⟨k, hk, hk2, hk3⟩ := opens_int Try.underlying3 _ _ _ _ _ _ _ _ _ g2
    obtain ⟨m, hm, hm2, hm3⟩ := opens_int Try.underlying3 _ _ _ _ _ _ _ _ _ g3
    have n1 : Try.prog.cellsOf 3 = 1 := by kernel_rfl
    have n2 : Try.prog.cellsOf 9 = 1 := by kernel_rfl
    refine ⟨⟨a, b, k, m⟩, ?_, ha2, hb2, ⟨hk2, hk3⟩, hm2, hm3⟩
    simp [n1, n2] at ha hb hk hm
    subst ha hb hk hm
    rfl
theorem RowsAt.adds {w : World} {v : Value} {l : List AddS} (h : RowsAt AddR 4 w v l) : ∃ a cap, v = .slice a l.length cap ∧ l.length ≤ maxLen ∧ ∀ i (hi : i < l.length), ∃ b off, a = some ⟨b, off, none⟩ ∧ b < w.heap.size ∧
    w.cell? ⟨b, off + i * 4, none⟩ = some (.string l[i].topic) ∧ w.cell? ⟨b, off + i * 4 + 1, none⟩ = some (.string l[i].key) ∧ w.cell? ⟨b, off + i * 4 + 2, none⟩ = some (.int .i64 l[i].pos) ∧ w.cell? ⟨b, off + i * 4 + 3, none⟩ = some (.int .i64 l[i].born) ∧
    l[i].topic.size ≤ maxLen ∧ l[i].key.size ≤ maxLen ∧ (-9223372036854775808 ≤ l[i].pos ∧ l[i].pos ≤ 9223372036854775807) ∧ -9223372036854775808 ≤ l[i].born ∧ l[i].born ≤ 9223372036854775807 := by
  obtain ⟨a, cap, rfl, h2, h3, h4⟩ := h
  refine ⟨a, cap, rfl, by omega, fun i hi => ?_⟩
  obtain ⟨b, off, cs, e, hb, hl, hcell, hr, hm⟩ := h4 i hi
  subst hr
  exact ⟨b, off, e, hb, hcell 0 (by omega), hcell 1 (by omega), hcell 2 (by omega), hcell 3 (by omega), hm⟩
end Go.Proofs.Ytjfiglkclpddaaa.kx

/- Layer 11: what the laws need: adding keeps what is of another type; a key's number; rows of keys. -/
namespace Go.Proofs.Ytjfiglkclpddaaa.kx
open Go.ChangeShapes Go.WideShapes Go.ChangeAt Go.RowKit
open Go.Proofs.Ytjfiglkclpddaaa.dk Go.Proofs.Ytjfiglkclpddaaa.oc Go.Proofs.Ytjfiglkclpddaaa.en Go.Proofs.Ytjfiglkclpddaaa.wh Go.Proofs.Ytjfiglkclpddaaa.nm

theorem struct_shape {P : Program} {w : World} {r : Reach} {b : Nat} {t : TypeId} {v : Value} {fs : Array Field} (ht : P.underlying t = some (.struct fs)) (h : Value.okWide P w r b t v) : ∃ cs, v = .agg cs := by
  obtain ⟨cs, h1, _⟩ := okWide_struct ht h; exact ⟨cs, h1⟩
theorem array_shape {P : Program} {w : World} {r : Reach} {b : Nat} {t e : TypeId} {n : Nat} {v : Value} (ht : P.underlying t = some (.array n e)) (h : Value.okWide P w r b t v) : ∃ cs, v = .agg cs := by
  simp only [Value.okWide, ht] at h
  obtain ⟨cs, h1, _⟩ := h
  exact ⟨cs, h1⟩
theorem add_arg {w : World} {v : Value} (hv : ∃ cs, v = .agg cs) (h : ∃ y, AddR w v.cells.toList y) : ∃ y : AddS, v = .agg #[.string y.topic, .string y.key, .int .i64 y.pos, .int .i64 y.born] ∧ AddR w v.cells.toList y := by
  obtain ⟨cs, rfl⟩ := hv
  obtain ⟨y, hy⟩ := h
  refine ⟨y, ?_, hy⟩
  have := hy.1
  simp only [Value.cells] at this
  rw [show cs = #[.string y.topic, .string y.key, .int .i64 y.pos, .int .i64 y.born] from Array.toList_inj.1 this]
theorem pair_arg {w : World} {v : Value} {k : IntKind} (hv : ∃ cs, v = .agg cs) (h : ∃ y, PairR k w v.cells.toList y) : ∃ y : Int × Int, v = .agg #[.int k y.1, .int k y.2] ∧ PairR k w v.cells.toList y := by
  obtain ⟨cs, rfl⟩ := hv
  obtain ⟨y, hy⟩ := h
  refine ⟨y, ?_, hy⟩
  have := hy.1
  simp only [Value.cells] at this
  rw [show cs = #[.int k y.1, .int k y.2] from Array.toList_inj.1 this]

/-- Blocks of another type than a disk's and an index's. -/
def Other (T : TypeId) : Prop := T ≠ 78 ∧ T ≠ 113 ∧ T ≠ 110 ∧ T ≠ 70
def KeepsT (T : TypeId) (w w' : World) : Prop := ∀ (b : Nat) (cur : Array Value), w.heap[b]? = some (Obj.cells cur T (0, 0)) → w'.heap[b]? = some (Obj.cells cur T (0, 0))
theorem KeepsT.calm {T : TypeId} {w w' : World} (h : Calm w w') : KeepsT T w w' := fun b cur hb => heap_calm h hb
theorem KeepsT.trans {T : TypeId} {a b c : World} (h : KeepsT T a b) (k : KeepsT T b c) : KeepsT T a c := fun x cur hb => k x cur (h x cur hb)
theorem other_apart {w : World} {x p m n b : Nat} {D : DiskS} {F : Nat → Prop} {T : TypeId} {cur : Array Value} (h : DiskOk w p D F n) (hx : IdxAt w x p m) (hT : Other T) (hb : w.heap[b]? = some (.cells cur T (0, 0))) : ¬ (F b ∨ b = x) := fun hf => by
  obtain ⟨mb, wv, h1, rfl⟩ := h.lies
  obtain ⟨t1, t2, t3, t4⟩ := hT
  rcases hf with (rfl | rfl | hf | hf) | rfl
  · rw [h1.obj] at hb; simp only [Option.some.injEq, Obj.cells.injEq] at hb; exact t1 hb.2.1.symm
  · obtain ⟨es, c, hm, _⟩ := h1.map; rw [hm] at hb; cases hb
  · obtain ⟨c, hc⟩ := own_row h1.waits hf; rw [hc] at hb; simp only [Option.some.injEq, Obj.cells.injEq] at hb; exact t2 hb.2.1.symm
  · obtain ⟨f, hf', rfl⟩ := List.mem_map.1 hf
    rw [h1.files f hf'] at hb; simp only [Option.some.injEq, Obj.cells.injEq] at hb; exact t3 hb.2.1.symm
  · unfold IdxAt at hx; rw [hx] at hb; simp only [Option.some.injEq, Obj.cells.injEq] at hb; exact t4 hb.2.1.symm
theorem Add_step2 (x p k : Nat) (W w : World) (s : List Ln × List Nat) (a : AddS) (h : KxS x p k W w s) (hk : k < 400) (ht : a.topic.size ≤ 255) (hks : a.key.size ≤ 255) :
    Calls Try.prog 12 #[ptrTo x, .string a.topic, .string a.key, .int .i64 a.pos, .int .i64 a.born] w fun e w' => e = .returned (.int .i64 (addCode a)) ∧ KxS x p (k + 1) W w' (addS s a) ∧ ∀ T, Other T → KeepsT T w w' := by
  cases hn : topicB a.topic && nm.keyB a.key
  · have hc : addCode a = 11 := by unfold addCode; rw [hn]; rfl
    have hs : addS s a = s := by unfold addS; rw [hc]; rfl
    rw [hc, hs]
    exact (Add_name x a.topic a.key a.pos a.born w hn hks).mono fun e w' ⟨he, hcalm⟩ => ⟨he, (h.calm hcalm).mono (Nat.le_succ _), fun T _ => .calm hcalm⟩
  · have hn' := hn
    rw [Bool.and_eq_true] at hn'
    cases hb : badNum a
    · have hc : addCode a = 0 := by unfold addCode; rw [hn, hb]; rfl
      obtain ⟨D, F, h1, h2, h3, h4, h5, h6, h7, h8⟩ := h
      unfold badNum at hb
      simp only [Bool.or_eq_false_iff, decide_eq_false_iff_not] at hb
      obtain ⟨⟨⟨b1, b2⟩, b3⟩, b4⟩ := hb
      have e1 : a.pos = ((a.pos.toNat : Nat) : Int) := by omega
      have e2 : a.born = ((a.born.toNat : Nat) : Int) := by omega
      have hadd := Add_any x a.topic a.key a.pos.toNat a.born.toNat w h1 (by omega) h2 (by omega) (by omega) h5 h6 hn'.1 hn'.2 ht hks (by omega) (by omega)
      rw [← e1, ← e2] at hadd
      rw [hc]
      refine hadd.mono fun e w' hd => ?_
      obtain ⟨he, D', F', g1, g2, g3, g4, g5⟩ := hd
      have hs : addS s a = (s.1 ++ [⟨numK a.topic a.key, a.pos.toNat, a.born.toNat, s.2.getD (numK a.topic a.key % 8) 0⟩], s.2.set (numK a.topic a.key % 8) (s.1.length + 1)) := by unfold addS; rw [if_pos hc]
      rw [hs]
      refine ⟨he, ⟨D', F', g1.mono (by omega), g2, h3.add h2.len _ _ _, by omega, ?_, idx_apart g1 g4, h7.step g5, ?_⟩, fun T hT b cur hb => g5.same hb (other_apart h1 h5 hT hb)⟩
      · simp only [List.length_append, List.length_singleton]; exact g4
      · simp only [List.length_append, List.length_singleton]; omega
    · have hc : addCode a = 1 := by unfold addCode; rw [hn, hb]; rfl
      have hs : addS s a = s := by unfold addS; rw [hc]; rfl
      rw [hc, hs]
      exact (Add_arg x a.topic a.key a.pos a.born w hn'.1 hn'.2 hks hb).mono fun e w' ⟨he, hcalm⟩ => ⟨he, (h.calm hcalm).mono (Nat.le_succ _), fun T _ => .calm hcalm⟩

/-- The document's number of a key. -/
theorem rnumber_any (t k : ByteArray) (w : World) (ht : t.size ≤ 255) (hk : k.size ≤ 255) :
    Calls Try.prog 17 #[.string t, .string k] w fun e w' => e = .returned (.int .i64 (numK t k : Int)) ∧ w = w' := by
  have hh := box (fun (s : ByteArray) (hs : s.data.toList = flatS [t, ⟨#[35]⟩, k]) (W : World) => (show Calls Try.prog 41 #[.string s] W fun e w' => e = .returned (.int .i64 (numK t k : Int)) ∧ W = w' by
    have hsz : s.size ≤ maxLen := by
      have := congrArg List.length hs
      simp [flatS] at this
      unfold maxLen
      omega
    have := rHash_any s W hsz
    rw [hs] at this
    exact this))
  go_enter Try.func17, Try.ntmps17
  go_wp2_with fail
  refine Calls.mono (hh.out _ ?_ _) ?_
  · simp [flatS]
  rintro e w1 ⟨rfl, rfl⟩
  go_wp2_with fail
  go_ret
  exact ⟨rfl, rfl⟩

def encA (a : AddS) : List Value := [.string a.topic, .string a.key, .int .i64 a.pos, .int .i64 a.born]
theorem encA_length (l : List AddS) : (l.flatMap encA).length = l.length * 4 := by
  induction l with
  | nil => rfl
  | cons a l ih => simp [encA, ih]; omega
theorem encA_get : ∀ (L : List AddS) (j : Nat) (hj : j < L.length), (L.flatMap encA)[j * 4]? = some (.string L[j].topic) ∧ (L.flatMap encA)[j * 4 + 1]? = some (.string L[j].key) ∧ (L.flatMap encA)[j * 4 + 2]? = some (.int .i64 L[j].pos) ∧ (L.flatMap encA)[j * 4 + 3]? = some (.int .i64 L[j].born)
  | x :: L, 0, _ => by simp [encA]
  | x :: L, j + 1, hj => by
    have := encA_get L j (by simpa using hj)
    simp only [List.flatMap_cons, List.getElem_cons_succ]
    have e : ∀ k, (encA x ++ L.flatMap encA)[(j + 1) * 4 + k]? = (L.flatMap encA)[j * 4 + k]? := fun k => by
      rw [List.getElem?_append_right (by simp [encA]; omega)]; congr 1; simp [encA]; omega
    have e0 := e 0
    simp only [Nat.add_zero] at e0
    rw [e0, e 1, e 2, e 3]; exact this
abbrev addRow (B : Nat) (w : World) (v : Value) (l : List AddS) : Prop := w.ownsRow B 39 4 v l.length (l.flatMap encA)
theorem addRow.shape {B : Nat} {w : World} {v : Value} {l : List AddS} (h : addRow B w v l) : ∃ a cap, v = .slice a l.length cap ∧ ∀ i (hi : i < l.length), ∃ b, a = some ⟨b, 0, none⟩ ∧ b < w.heap.size ∧
    w.cell? ⟨b, i * 4, none⟩ = some (.string l[i].topic) ∧ w.cell? ⟨b, i * 4 + 1, none⟩ = some (.string l[i].key) ∧ w.cell? ⟨b, i * 4 + 2, none⟩ = some (.int .i64 l[i].pos) ∧ w.cell? ⟨b, i * 4 + 3, none⟩ = some (.int .i64 l[i].born) := by
  rcases h.2 with ⟨rfl, hn⟩ | ⟨g, cap, cur, rfl, hb, hg, hnc, hcm, hcs, htake⟩
  · exact ⟨none, 0, by rw [hn], fun i hi => by omega⟩
  · refine ⟨_, cap, rfl, fun i hi => ⟨g, rfl, heap_lt hg, ?_⟩⟩
    have hc : ∀ j u, (l.flatMap encA)[j]? = some u → w.cell? ⟨g, j, none⟩ = some u := fun j u hj => by
      have := h.cells (g := g) rfl j u hj
      rwa [add_lit] at this
    obtain ⟨h0, h1, h2, h3⟩ := encA_get l i hi
    exact ⟨hc _ _ h0, hc _ _ h1, hc _ _ h2, hc _ _ h3⟩
theorem infoAdd : (Try.prog.info? 39).map (fun i => (i.zero, i.size, i.bytes)) = some (some (.agg #[.string ⟨#[]⟩, .string ⟨#[]⟩, .int .i64 0, .int .i64 0]), 4, 48) := by kernel_rfl
theorem append_add (B : Nat) (w : World) (v : Value) (L : List AddS) (x : AddS) (h : addRow B w v L) (hB : B ≤ w.heap.size) (hl : L.length ≤ 1000000) (ty : TypeId) :
    ∃ v' w', (Builtin.append_ #[37, 37] ty #[v, .slice (some ⟨w.heap.size, 0, none⟩) 1 1]).run Try.prog (w.alloc (.cells #[.string x.topic, .string x.key, .int .i64 x.pos, .int .i64 x.born] 39)) = .ok v' w' ∧ addRow B w' v' (L ++ [x]) ∧
      Keeps (fun g => v.ownBlock = some g) w w' := by
  obtain ⟨i0, hi, hz0, hz1, hz2⟩ := info_parts infoAdd
  have hb := heap_new w (.cells #[.string x.topic, .string x.key, .int .i64 x.pos, .int .i64 x.born] 39)
  obtain ⟨v', w', h1, h2, h3, h4⟩ := append_own (P := Try.prog) (w.alloc (.cells #[.string x.topic, .string x.key, .int .i64 x.pos, .int .i64 x.born] 39)) 37 ty 39 i0 _ 4 48 Try.underlying37 hi hz0 hz1 hz2 (by kernel_rfl) (by decide) v L.length _ (row_zero (h.alloc _)) ⟨w.heap.size, 0, none⟩ 1 1 (by decide) (encA x) rfl (fun j u hj => by
      rw [add_lit, cell_of hb]
      match j, hj with
      | 0, hj => exact hj
      | 1, hj => exact hj
      | 2, hj => exact hj
      | 3, hj => exact hj
      | k + 4, hj => simp [encA] at hj) (fun u hu => by
      rcases List.mem_cons.1 hu with rfl | hu
      · rfl
      rcases List.mem_cons.1 hu with rfl | hu
      · rfl
      rcases List.mem_cons.1 hu with rfl | hu
      · rfl
      rcases List.mem_cons.1 hu with rfl | hu
      · rfl
      cases hu) (by simp only [maxLen]; omega) (by omega)
  refine ⟨v', w', h1, ?_, ?_⟩
  · show w'.ownsRow B _ 4 v' (L ++ [x]).length ((L ++ [x]).flatMap encA)
    refine row_base ?_ (fun g e => ?_)
    rotate_left
    · rcases h4 with h4 | h4
      · exact (h.lt g (h4.symm.trans e)).1
      · rw [h4] at e; cases e; simp; omega
    rw [List.flatMap_append, List.length_append]
    simpa using h2
  · exact (((Keeps.refl (fun g => v.ownBlock = some g) w).alloc _).trans' (h3.mono (fun b _ h => h)))
theorem addRow.keep {B : Nat} {w w' : World} {v : Value} {l : List AddS} (h : addRow B w v l) (k : KeepsT 39 w w') : addRow B w' v l := by
  refine ⟨h.1, ?_⟩
  rcases h.2 with h2 | ⟨g, cap, cur, rfl, h3, h4, h5⟩
  · exact .inl h2
  · exact .inr ⟨g, cap, cur, rfl, h3, k g cur h4, h5⟩
theorem KxS.keepG {x p k : Nat} {W w w' : World} {s : List Ln × List Nat} {G : Nat → Prop} (h : KxS x p k W w s) (hk : Keeps G w w') (hG : ∀ b, G b → W.heap.size ≤ b ∧ ∃ T cur, Other T ∧ w.heap[b]? = some (Obj.cells cur T (0, 0))) : KxS x p k W w' s := by
  obtain ⟨D, F, h1, h2, h3, h4, h5, h6, h7, h8⟩ := h
  have hap : ∀ b, (F b ∨ b = x) → ¬ G b := fun b hf hg => by
    obtain ⟨_, T, cur, hT, hb⟩ := hG b hg
    exact other_apart h1 h5 hT hb hf
  exact ⟨D, F, h1.keep hk (fun b hf => hap b (.inl hf)), h2, h3, h4, h5.keep hk (hap x (.inr rfl)), h6, ⟨Below.trans h7.calm (hk.below h7.calm.size (fun b hg => (hG b hg).1)), h7.foot⟩, h8⟩
theorem KeepsT.of_keeps {T T' : TypeId} {w w' : World} {G : Nat → Prop} (hk : Keeps G w w') (hG : ∀ b, G b → ∃ cur, w.heap[b]? = some (Obj.cells cur T' (0, 0))) (hne : T ≠ T') : KeepsT T w w' := fun b cur hb =>
  (hk.block b (heap_lt hb) (fun hg => by
    obtain ⟨c, hc⟩ := hG b hg
    rw [hc] at hb
    simp only [Option.some.injEq, Obj.cells.injEq] at hb
    exact hne hb.2.1.symm)).trans hb
theorem other_add : Other 39 := by unfold Other; decide
theorem other_int : Other 3 := by unfold Other; decide

/-- The entries are those keys. -/
def Alike (E : List Ln) (A : List AddS) : Prop := E.length = A.length ∧ ∀ i (h : i < E.length) (h' : i < A.length), E[i].h = numK A[i].topic A[i].key ∧ (E[i].pos : Int) = A[i].pos
theorem Alike.add {E : List Ln} {A : List AddS} (h : Alike E A) (a : AddS) (hp : 0 ≤ a.pos) (g b : Nat) : Alike (E ++ [⟨numK a.topic a.key, a.pos.toNat, b, g⟩]) (A ++ [a]) := by
  obtain ⟨hl, h⟩ := h
  refine ⟨by simp [hl], fun i hi hi' => ?_⟩
  by_cases hlt : i < E.length
  · rw [List.getElem_append_left hlt, List.getElem_append_left (by omega)]
    exact h i hlt (by omega)
  · have hi1 : i = E.length := by rw [List.length_append, List.length_singleton] at hi; omega
    subst hi1
    rw [List.getElem_append_right (Nat.le_refl _), List.getElem_append_right (by omega)]
    simp only [Nat.sub_self, hl, List.getElem_cons_zero]
    exact ⟨trivial, by omega⟩
theorem back_full (E : List Ln) (b v : Nat) (least most : Int) : ∀ (j : Nat) (out : List Int), ¬ (out.length : Int) < most → backS E b (fdStp v least most) (fdGo v least most) j out = out
  | 0, _, _ => rfl
  | i + 1, out, h => by
    have ih := back_full E b v least most i out h
    have hst : ∀ n e, fdStp v least most out n e = out := fun n e => by unfold fdStp; rw [if_neg (fun hc => h hc.2.2)]
    have hgo : ∀ n e, fdGo v least most out n e = false := fun n e => by unfold fdGo; rw [hst, decide_eq_false h]; rfl
    unfold backS
    split
    · exact ih
    · split
      · rw [hgo, hst]; rfl
      · exact ih
/-- A step back, in each case. -/
theorem back_step {E : List Ln} {b v : Nat} {least most : Int} {i : Nat} {out : List Int} {e : Ln} (he : E[i]? = some e) (hm : (out.length : Int) < most) :
    (e.h % 8 ≠ b → backS E b (fdStp v least most) (fdGo v least most) (i + 1) out = backS E b (fdStp v least most) (fdGo v least most) i out) ∧
    (e.h % 8 = b → (e.pos : Int) < least → backS E b (fdStp v least most) (fdGo v least most) (i + 1) out = out) ∧
    (e.h % 8 = b → ¬ (e.pos : Int) < least → e.h ≠ v → backS E b (fdStp v least most) (fdGo v least most) (i + 1) out = backS E b (fdStp v least most) (fdGo v least most) i out) ∧
    (e.h % 8 = b → ¬ (e.pos : Int) < least → e.h = v → backS E b (fdStp v least most) (fdGo v least most) (i + 1) out = backS E b (fdStp v least most) (fdGo v least most) i (out ++ [(e.pos : Int)])) := by
  refine ⟨fun h => ?_, fun h h2 => ?_, fun h h2 h3 => ?_, fun h h2 h3 => ?_⟩
  · rw [backS, he]; simp only; rw [if_neg h]
  · have hst : fdStp v least most out (i + 1) e = out := by unfold fdStp; rw [if_neg (fun hc => by omega)]
    have hgo : fdGo v least most out (i + 1) e = false := by unfold fdGo; rw [decide_eq_false (show ¬ least ≤ (e.pos : Int) by omega), Bool.and_false]
    rw [backS, he]; simp only; rw [if_pos h, hgo, hst]; rfl
  · have hst : fdStp v least most out (i + 1) e = out := by unfold fdStp; rw [if_neg (fun hc => h3 hc.1)]
    have hgo : fdGo v least most out (i + 1) e = true := by unfold fdGo; rw [hst, decide_eq_true hm, decide_eq_true (show least ≤ (e.pos : Int) by omega)]; rfl
    rw [backS, he]; simp only; rw [if_pos h, hgo, hst]; rfl
  · have hst : fdStp v least most out (i + 1) e = out ++ [(e.pos : Int)] := by unfold fdStp; rw [if_pos ⟨h3, by omega, hm⟩]
    rw [backS, he]; simp only; rw [if_pos h, hst]
    split
    · rfl
    · rename_i hg
      refine (back_full E b v least most i _ (fun hl => hg ?_)).symm
      unfold fdGo; rw [hst, decide_eq_true hl, decide_eq_true (show least ≤ (e.pos : Int) by omega)]; rfl
end Go.Proofs.Ytjfiglkclpddaaa.kx

/- Layer 11, plain laws: all chains together are all entries. -/
namespace Go.Proofs.Ytjfiglkclpddaaa.kx
open Go.ChangeShapes Go.WideShapes Go.ChangeAt Go.RowKit
open Go.Proofs.Ytjfiglkclpddaaa.dk Go.Proofs.Ytjfiglkclpddaaa.oc Go.Proofs.Ytjfiglkclpddaaa.en Go.Proofs.Ytjfiglkclpddaaa.wh Go.Proofs.Ytjfiglkclpddaaa.nm

/-- A bucket's entries among the first n, the last one first. -/
def chL (E : List Ln) (b : Nat) : Nat → List Nat
  | 0 => []
  | i + 1 => match E[i]? with
    | none => chL E b i
    | some e => if e.h % 8 = b then (i + 1) :: chL E b i else chL E b i
theorem back_chain (E : List Ln) (b : Nat) : ∀ n out, backS E b chStp chGo n out = out ++ (chL E b n).map (fun (x : Nat) => (x : Int))
  | 0, out => by simp [backS, chL]
  | i + 1, out => by
    have ih := back_chain E b i
    unfold backS chL
    cases hE : E[i]? with
    | none => simp only; exact ih out
    | some e =>
      simp only
      by_cases hb : e.h % 8 = b
      · rw [if_pos hb, if_pos hb, if_pos (show chGo out (i + 1) e = true from rfl), ih]
        simp [chStp]
      · rw [if_neg hb, if_neg hb]; exact ih out
theorem chL_mem (E : List Ln) (b : Nat) : ∀ n, ∀ x ∈ chL E b n, 1 ≤ x ∧ x ≤ n ∧ ∃ e, E[x - 1]? = some e ∧ e.h % 8 = b
  | 0, x, hx => by simp [chL] at hx
  | i + 1, x, hx => by
    have ih := chL_mem E b i x
    unfold chL at hx
    cases hE : E[i]? with
    | none =>
      rw [hE] at hx
      obtain ⟨h1, h2, h3⟩ := ih hx
      exact ⟨h1, by omega, h3⟩
    | some e =>
      rw [hE] at hx
      simp only at hx
      by_cases hb : e.h % 8 = b
      · rw [if_pos hb] at hx
        rcases List.mem_cons.1 hx with rfl | hx
        · exact ⟨by omega, Nat.le_refl _, e, by simpa using hE, hb⟩
        · obtain ⟨h1, h2, h3⟩ := ih hx
          exact ⟨h1, by omega, h3⟩
      · rw [if_neg hb] at hx
        obtain ⟨h1, h2, h3⟩ := ih hx
        exact ⟨h1, by omega, h3⟩
theorem chL_falls (E : List Ln) (b : Nat) : ∀ n, (chL E b n).Pairwise (fun x y => y < x)
  | 0 => List.Pairwise.nil
  | i + 1 => by
    have ih := chL_falls E b i
    unfold chL
    split
    · exact ih
    · split
      · exact List.pairwise_cons.2 ⟨fun x hx => by have := (chL_mem E b i x hx).2.1; omega, ih⟩
      · exact ih
/-- All buckets below b. -/
def allL (E : List Ln) (n : Nat) : Nat → List Nat
  | 0 => []
  | b + 1 => allL E n b ++ chL E b n
theorem allL_mem (E : List Ln) (n : Nat) : ∀ b, ∀ x ∈ allL E n b, ∃ e, E[x - 1]? = some e ∧ e.h % 8 < b
  | 0, x, hx => by simp [allL] at hx
  | b + 1, x, hx => by
    unfold allL at hx
    rcases List.mem_append.1 hx with hx | hx
    · obtain ⟨e, h1, h2⟩ := allL_mem E n b x hx
      exact ⟨e, h1, by omega⟩
    · obtain ⟨_, _, e, h1, h2⟩ := chL_mem E b n x hx
      exact ⟨e, h1, by omega⟩
theorem allL_step (E : List Ln) (i : Nat) (hi : i < E.length) : ∀ b, (allL E (i + 1) b).length = (allL E i b).length + if E[i].h % 8 < b then 1 else 0
  | 0 => by simp [allL]
  | b + 1 => by
    have ih := allL_step E i hi b
    unfold allL
    rw [List.length_append, List.length_append, ih]
    conv => lhs; rhs; unfold chL
    rw [List.getElem?_eq_getElem hi]
    simp only
    split <;> split <;> (try split) <;> (try simp only [List.length_cons]) <;> omega
theorem allL_zero (E : List Ln) : ∀ b, allL E 0 b = []
  | 0 => rfl
  | b + 1 => by unfold allL; rw [allL_zero E b]; rfl
theorem allL_length (E : List Ln) : ∀ n, n ≤ E.length → (allL E n 8).length = n
  | 0, _ => by rw [allL_zero]; rfl
  | i + 1, h => by
    rw [allL_step E i (by omega), allL_length E i (by omega), if_pos (Nat.mod_lt _ (by decide))]
/-- What lies ahead of place j: n + 1 at first. -/
def lastAt (l : List Nat) (n : Nat) : Nat → Nat
  | 0 => n + 1
  | j + 1 => l.getD j 0
theorem chain_at (E : List Ln) (b n j : Nat) (hj : j < (chL E b n).length) : 1 ≤ (chL E b n)[j] ∧ (chL E b n)[j] ≤ n ∧ (chL E b n)[j] < lastAt (chL E b n) n j ∧ lastAt (chL E b n) n (j + 1) = (chL E b n)[j] ∧
    ∀ y ∈ allL E n b ++ (chL E b n).take j, y ≠ (chL E b n)[j] := by
  obtain ⟨h1, h2, e, he, hb⟩ := chL_mem E b n _ (List.getElem_mem hj)
  have hp := List.pairwise_iff_getElem.1 (chL_falls E b n)
  refine ⟨h1, h2, ?_, ?_, fun y hy e2 => ?_⟩
  · cases j with
    | zero => show _ < n + 1; omega
    | succ j =>
      show _ < (chL E b n).getD j 0
      rw [List.getD_eq_getElem?_getD, List.getElem?_eq_getElem (by omega)]
      exact hp j (j + 1) (by omega) hj (by omega)
  · show (chL E b n).getD j 0 = _
    rw [List.getD_eq_getElem?_getD, List.getElem?_eq_getElem hj]; rfl
  · rcases List.mem_append.1 hy with hy | hy
    · obtain ⟨e', g1, g2⟩ := allL_mem E n b y hy
      rw [e2, he] at g1
      cases g1
      omega
    · obtain ⟨k, hk, rfl⟩ := List.getElem_of_mem hy
      rw [List.getElem_take] at e2
      rw [List.length_take] at hk
      have := hp k j (by omega) hj (by omega)
      omega
theorem chain_take (E : List Ln) (b n j : Nat) (hj : j < (chL E b n).length) : allL E n b ++ (chL E b n).take (j + 1) = (allL E n b ++ (chL E b n).take j) ++ [(chL E b n)[j]] := by
  rw [List.take_succ_eq_append_getElem hj, List.append_assoc]
theorem chain_all (E : List Ln) (b n : Nat) : ∃ L : List Nat, chL E b n = L ∧ (∀ j (hj : j < L.length), 1 ≤ L[j] ∧ L[j] ≤ n ∧ L[j] < lastAt L n j ∧ lastAt L n (j + 1) = L[j] ∧ (∀ y ∈ allL E n b ++ L.take j, y ≠ L[j]) ∧
    allL E n b ++ L.take (j + 1) = (allL E n b ++ L.take j) ++ [L[j]]) ∧ allL E n (b + 1) = allL E n b ++ L :=
  ⟨_, rfl, fun j hj => by
    obtain ⟨h1, h2, h3, h4, h5⟩ := chain_at E b n j hj
    exact ⟨h1, h2, h3, h4, h5, chain_take E b n j hj⟩, rfl⟩
theorem KxS.few {x p k : Nat} {W w : World} {s : List Ln × List Nat} (h : KxS x p k W w s) : s.1.length ≤ k := by
  obtain ⟨D, F, h1, h2, h3, h4, h5, h6, h7, h8⟩ := h
  exact h8
theorem KxS.chain' {x p k : Nat} {W w : World} {s : List Ln × List Nat} (h : KxS x p k W w s) (b : Nat) (hb : b < 8) (L : List Nat) (hL : chL s.1 b s.1.length = L) :
    Calls Try.prog 19 #[ptrTo x, .int .i64 (b : Int)] w fun e w' => ∃ v, e = .returned v ∧ IntsAt w' v (L.map fun (n : Nat) => (n : Int)) ∧ From w.heap.size v ∧ Calm w w' := by
  have := h.chain b hb
  rw [back_chain, List.nil_append, hL] at this
  exact this
/-- What was seen. -/
def seenM (L : List Nat) : List (Value × Value) := L.map fun (n : Nat) => (.int .i64 (n : Int), .bool true)
theorem seen_miss {w : World} {mb : Nat} {L : List Nat} (h : MapIs w mb (.int .i64) (seenM L)) (x : Nat) (hx : ∀ y ∈ L, y ≠ x) : (Instr.lookup 45 (.map (some mb)) (.int .i64 (x : Int)) false).run Try.prog w = .ok (.bool false) w := by
  have := h.miss (P := Try.prog) (z := .bool false) Try.underlying45 Try.underlying3 (key := .int .i64 (x : Int)) rfl (by kernel_rfl) (fun y hy => by
    obtain ⟨n, hn, rfl⟩ := List.mem_map.1 hy
    have := hx n hn
    simp only [ne_eq, Value.int.injEq, true_and]
    omega) false
  simpa using this
theorem seen_add {w : World} {mb : Nat} {L : List Nat} (h : MapIs w mb (.int .i64) (seenM L)) (x : Nat) (hx : ∀ y ∈ L, y ≠ x) :
    ∃ o, (Instr.mapUpdate 45 (.map (some mb)) (.int .i64 (x : Int)) (.bool true)).run Try.prog w = .ok () (ChangeMaps.setBlock w mb o) ∧ MapIs (ChangeMaps.setBlock w mb o) mb (.int .i64) (seenM (L ++ [x])) := by
  obtain ⟨o, h1, h2⟩ := h.add (P := Try.prog) Try.underlying45 Try.underlying3 (key := .int .i64 (x : Int)) (.bool true) rfl (fun y hy => by
    obtain ⟨n, hn, rfl⟩ := List.mem_map.1 hy
    have := hx n hn
    simp only [ne_eq, Value.int.injEq, true_and]
    omega)
  refine ⟨o, h1, ?_⟩
  unfold seenM at h2 ⊢
  rw [List.map_append]
  exact h2
theorem map_len {P : Program} {w : World} {t k e : TypeId} {b : Nat} {d : TypeDesc} {m : List (Value × Value)} (h : MapIs w b d m) (ht : P.underlying t = some (.map k e)) (ty : TypeId) : (Builtin.len_ #[t] ty #[.map (some b)]).run P w = .ok (.int .i64 m.length) w := by
  obtain ⟨es, c, hb, hs, rfl, hk⟩ := h
  simp [Builtin.len_, run_underlying ht, MapKept.run_getObj_map hb, goInt, Result.andThen]
theorem calm_set {a w : World} {mb : Nat} (h : Calm a w) (hb : a.heap.size ≤ mb) (o : Obj) : Calm a (ChangeMaps.setBlock w mb o) := by
  have := (Keeps.of_calm (F := fun b => b = mb) h).setObj (.inl rfl) o
  exact this.below (Nat.le_refl _) (fun b e => by omega)
theorem seen_len {w : World} {mb : Nat} {E : List Ln} (h : MapIs w mb (.int .i64) (seenM (allL E E.length 8))) (ty : TypeId) : (Builtin.len_ #[45] ty #[.map (some mb)]).run Try.prog w = .ok (.int .i64 (E.length : Int)) w := by
  have := map_len (P := Try.prog) h Try.underlying45 ty
  rw [show (seenM (allL E E.length 8)).length = E.length by unfold seenM; rw [List.length_map]; exact allL_length _ _ (Nat.le_refl _)] at this
  exact this
end Go.Proofs.Ytjfiglkclpddaaa.kx

/- Layer 11, plain laws: what is told of a key when few, or many, are asked for. -/
namespace Go.Proofs.Ytjfiglkclpddaaa.kx
open Go.ChangeShapes Go.WideShapes Go.ChangeAt Go.RowKit
open Go.Proofs.Ytjfiglkclpddaaa.dk Go.Proofs.Ytjfiglkclpddaaa.oc Go.Proofs.Ytjfiglkclpddaaa.en Go.Proofs.Ytjfiglkclpddaaa.wh Go.Proofs.Ytjfiglkclpddaaa.nm

/-- The places of a key's entries among the first n, the last one first. -/
def hits (E : List Ln) (v : Nat) : Nat → List Int
  | 0 => []
  | i + 1 => match E[i]? with
    | none => hits E v i
    | some e => if e.h = v then (e.pos : Int) :: hits E v i else hits E v i
theorem back_hits (E : List Ln) (v m : Nat) : ∀ n out, out.length ≤ m → backS E (v % 8) (fdStp v 0 m) (fdGo v 0 m) n out = out ++ (hits E v n).take (m - out.length)
  | 0, out, _ => by simp [backS, hits]
  | i + 1, out, hm => by
    have ih := back_hits E v m i
    by_cases hlt : (out.length : Int) < (m : Int)
    · cases hE : E[i]? with
      | none =>
        rw [backS, hits, hE]; simp only; exact ih out hm
      | some e =>
        obtain ⟨b1, _, b3, b4⟩ := back_step (b := v % 8) (v := v) (least := 0) hE hlt
        rw [hits, hE]
        simp only
        by_cases hv : e.h = v
        · rw [if_pos hv, b4 (by rw [hv]) (by omega) hv, ih _ (by simp only [List.length_append, List.length_singleton]; omega)]
          rw [show m - out.length = (m - (out ++ [(e.pos : Int)]).length) + 1 by simp only [List.length_append, List.length_singleton]; omega, List.take_succ_cons]
          simp
        · rw [if_neg hv]
          by_cases hb : e.h % 8 = v % 8
          · rw [b3 hb (by omega) hv, ih out hm]
          · rw [b1 hb, ih out hm]
    · rw [back_full _ _ _ _ _ _ _ hlt, show m - out.length = 0 by omega]; simp
theorem find_hits (E : List Ln) (v m n : Nat) : backS E (v % 8) (fdStp v 0 m) (fdGo v 0 m) n [] = (hits E v n).take m := by
  rw [back_hits E v m n [] (Nat.zero_le _)]; simp
/-- The key of a number. -/
def kq (c : Nat) : ByteArray := ⟨#[UInt8.ofNat (97 + c)]⟩
theorem kq_inj : ∀ a < 4, ∀ b < 4, numK bA (kq a) = numK bA (kq b) → a = b := by decide
theorem kq_key : ∀ a < 4, nm.keyB (kq a) = true := by decide
/-- The entries of keys that were added one by one. -/
def MostIs (E : List Ln) (K : List Nat) (n : Nat) : Prop := E.length = n ∧ n ≤ K.length ∧ ∀ i (h : i < E.length) (h' : i < K.length), E[i].h = numK bA (kq (K[i] % 4)) ∧ E[i].pos = 10 * i
theorem MostIs.zero (K : List Nat) : MostIs [] K 0 := ⟨rfl, Nat.zero_le _, fun i h => absurd h (Nat.not_lt_zero _)⟩
theorem MostIs.add {E : List Ln} {K : List Nat} {n : Nat} (h : MostIs E K n) (hn : n < K.length) (b a : Nat) : MostIs (E ++ [⟨numK bA (kq (K[n] % 4)), 10 * n, b, a⟩]) K (n + 1) := by
  obtain ⟨h1, h2, h3⟩ := h
  refine ⟨by simp [h1], hn, fun i hi hi' => ?_⟩
  rw [List.length_append, List.length_singleton] at hi
  by_cases hlt : i < E.length
  · rw [List.getElem_append_left hlt]; exact h3 i hlt hi'
  · obtain rfl : i = E.length := by omega
    rw [List.getElem_append_right (Nat.le_refl _)]
    simp only [Nat.sub_self, List.getElem_cons_zero]
    subst h1
    exact ⟨rfl, rfl⟩
theorem hits_mem {E : List Ln} {K : List Nat} {N : Nat} (h : MostIs E K N) (c : Nat) (hc : c < 4) : ∀ n, n ≤ N → ∀ x ∈ hits E (numK bA (kq c)) n, ∃ j, j < n ∧ ∃ (hj : j < K.length), x = ((10 * j : Nat) : Int) ∧ K[j] % 4 = c
  | 0, _, x, hx => by simp [hits] at hx
  | i + 1, hn, x, hx => by
    have ih := hits_mem h c hc i (by omega)
    obtain ⟨h1, h2, h3⟩ := h
    have hi : i < E.length := by omega
    rw [hits, List.getElem?_eq_getElem hi] at hx
    simp only at hx
    by_cases hv : E[i].h = numK bA (kq c)
    · rw [if_pos hv] at hx
      rcases List.mem_cons.1 hx with rfl | hx
      · obtain ⟨g1, g2⟩ := h3 i hi (by omega)
        refine ⟨i, Nat.lt_succ_self _, by omega, by rw [g2], ?_⟩
        rw [g1] at hv
        exact kq_inj _ (Nat.mod_lt _ (by decide)) _ hc hv
      · obtain ⟨j, g1, g2⟩ := ih x hx
        exact ⟨j, by omega, g2⟩
    · rw [if_neg hv] at hx
      obtain ⟨j, g1, g2⟩ := ih x hx
      exact ⟨j, by omega, g2⟩
theorem hits_falls {E : List Ln} {K : List Nat} {N : Nat} (h : MostIs E K N) (c : Nat) (hc : c < 4) : ∀ n, n ≤ N → (hits E (numK bA (kq c)) n).Pairwise (fun x y => y < x)
  | 0, _ => List.Pairwise.nil
  | i + 1, hn => by
    have ih := hits_falls h c hc i (by omega)
    have hm := hits_mem h c hc i (by omega)
    have hi : i < E.length := by have := h.1; omega
    rw [hits, List.getElem?_eq_getElem hi]
    simp only
    split
    · refine List.pairwise_cons.2 ⟨fun x hx => ?_, ih⟩
      obtain ⟨j, g1, _, g2, _⟩ := hm x hx
      rw [(h.2.2 i hi (by have := h.2.1; omega)).2, g2]; omega
    · exact ih
theorem hits_few (E : List Ln) (v : Nat) : ∀ n, (hits E v n).length ≤ n
  | 0 => Nat.le_refl _
  | i + 1 => by
    have ih := hits_few E v i
    rw [hits]
    split
    · omega
    · split
      · simp only [List.length_cons]; omega
      · omega
/-- One of those that are told. -/
theorem most_at {E : List Ln} {K : List Nat} {N : Nat} (h : MostIs E K N) (c : Nat) (hc : c < 4) (m i : Nat) (hi : i < ((hits E (numK bA (kq c)) N).take m).length) :
    ∃ j, ∃ (hj : j < K.length), ((hits E (numK bA (kq c)) N).take m)[i] = ((10 * j : Nat) : Int) ∧ K[j] % 4 = c ∧ ∀ (h0 : 0 < i), ((hits E (numK bA (kq c)) N).take m)[i] < ((hits E (numK bA (kq c)) N).take m)[i - 1] := by
  have hl : i < (hits E (numK bA (kq c)) N).length := by rw [List.length_take] at hi; omega
  obtain ⟨j, _, g2, g3, g4⟩ := hits_mem h c hc N (Nat.le_refl _) _ (List.getElem_mem hl)
  refine ⟨j, g2, by rw [List.getElem_take]; exact g3, g4, fun h0 => ?_⟩
  rw [List.getElem_take, List.getElem_take]
  exact List.pairwise_iff_getElem.1 (hits_falls h c hc N (Nat.le_refl _)) (i - 1) i (by omega) hl (by omega)
theorem few_of (H : List Int) (a b : Nat) (hab : a ≤ b) : (H.take a).length ≤ a ∧ (H.take a).length ≤ (H.take b).length ∧ H.take a = (H.take b).take (H.take a).length ∧ ((H.take a).length < a → (H.take a).length = (H.take b).length) := by
  simp only [List.length_take]
  refine ⟨by omega, by omega, ?_, fun h => by omega⟩
  rw [List.take_take, List.take_eq_take_iff]; omega
theorem KxS.hits {x p k : Nat} {W w : World} {s : List Ln × List Nat} (h : KxS x p k W w s) (c m : Nat) (hc : c < 4) :
    Calls Try.prog 13 #[ptrTo x, .string bA, .string (kq c), .int .i64 0, .int .i64 (m : Int)] w fun e w' => ∃ v, e = .returned (.tuple #[v, .int .i64 0]) ∧ IntsAt w' v ((hits s.1 (numK bA (kq c)) s.1.length).take m) ∧ Calm w w' := by
  have := h.find bA (kq c) 0 (m : Int) (by decide) (show (1 : Nat) ≤ 255 by decide)
  rw [find_hits] at this
  exact this.mono fun e w' ⟨v, h1, h2, _, h3⟩ => ⟨v, h1, h2, h3⟩
theorem conv_one (w : World) (c : Nat) (z : Int) (hc : c < 4) (hz : z = 97 + (c : Int)) : (convert 22 9 (.slice (some ⟨w.heap.size, 0, none⟩) 1 1)).run Try.prog (w.alloc (.cells #[.int .u8 z] 5)) = .ok (.string (kq c)) (w.alloc (.cells #[.int .u8 z] 5)) := by
  subst hz
  have hb := heap_new w (.cells #[.int .u8 (97 + (c : Int))] 5)
  have := run_convert_bytes_arg (P := Try.prog) (w.alloc (.cells #[.int .u8 (97 + (c : Int))] 5)) 22 5 Try.underlying22 Try.underlying5 w.heap.size 0 1 1 [97 + (c : Int)] rfl (fun i hi => by
    obtain rfl : i = 0 := by simp at hi; omega
    rw [Nat.zero_add]
    exact (cell_of hb 0).trans rfl) 9 Try.underlying9
  rw [this]
  have : c = 0 ∨ c = 1 ∨ c = 2 ∨ c = 3 := by omega
  rcases this with rfl | rfl | rfl | rfl <;> rfl
theorem most_code (c n b : Nat) (hc : c < 4) (hn : n ≤ 1000) (hb : b ≤ 1000) : addCode ⟨bA, kq c, ((10 * n : Nat) : Int), (b : Int)⟩ = 0 := by
  have h1 : topicB bA = true := by decide
  have h2 : badNum ⟨bA, kq c, ((10 * n : Nat) : Int), (b : Int)⟩ = false := by
    unfold badNum
    simp only [Bool.or_eq_false_iff, decide_eq_false_iff_not]
    omega
  unfold addCode
  simp only [h1, kq_key c hc, h2]
  rfl
theorem most_add {s : List Ln × List Nat} {K : List Nat} {n : Nat} (h : MostIs s.1 K n) (hn : n < K.length) (hK : n ≤ 1000) : MostIs (addS s ⟨bA, kq (K[n] % 4), ((10 * n : Nat) : Int), ((n : Nat) : Int)⟩).1 K (n + 1) := by
  unfold addS
  rw [if_pos (most_code _ n n (Nat.mod_lt _ (by decide)) hK hK)]
  exact h.add hn _ _
/-- What is told of one key, as two lists. -/
theorem most_all {E : List Ln} {K : List Nat} {N : Nat} (h : MostIs E K N) (c : Nat) (hc : c < 4) (few many : Nat) (hf : few ≤ many) : ∃ L M : List Int, (hits E (numK bA (kq c)) N).take many = L ∧ (hits E (numK bA (kq c)) N).take few = M ∧ L.length ≤ N ∧
    M.length ≤ few ∧ M.length ≤ L.length ∧ M = L.take M.length ∧ (M.length < few → M.length = L.length) ∧
    ∀ i (hi : i < L.length), ∃ j, ∃ (hj : j < K.length), L[i] = ((10 * j : Nat) : Int) ∧ K[j] % 4 = c ∧ ∀ (h0 : 0 < i), L[i] < L[i - 1] := by
  obtain ⟨h1, h2, h3, h4⟩ := few_of (hits E (numK bA (kq c)) N) few many hf
  refine ⟨_, _, rfl, rfl, ?_, h1, h2, h3, h4, fun i hi => most_at h c hc many i hi⟩
  have := hits_few E (numK bA (kq c)) N
  rw [List.length_take]; omega
theorem KxS.hits' {x p k : Nat} {W w : World} {s : List Ln × List Nat} (h : KxS x p k W w s) (c m : Nat) (z : Int) (hz : z = m) (hc : c < 4) (N : Nat) (hN : s.1.length = N) (L : List Int) (hL : (kx.hits s.1 (numK bA (kq c)) N).take m = L) :
    Calls Try.prog 13 #[ptrTo x, .string bA, .string (kq c), .int .i64 0, .int .i64 z] w fun e w' => ∃ v, e = .returned (.tuple #[v, .int .i64 0]) ∧ IntsAt w' v L ∧ Calm w w' := by
  subst hz hN hL
  exact h.hits c m hc
theorem ints_take {w : World} {a : Option Addr} {n cap : Nat} {l : List Int} (h : IntsAt w (.slice a n cap) l) (m : Nat) (hm : m ≤ l.length) : IntsAt w (.slice a m cap) (l.take m) := by
  obtain ⟨a', cap', e, ⟨h1, h2⟩, h3⟩ := h
  cases e
  refine ⟨a, cap, by rw [List.length_take, Nat.min_eq_left hm], by rw [List.length_take]; omega, fun k hk => ?_⟩
  rw [List.length_take] at hk
  obtain ⟨b, off, g1, g2, g3⟩ := h3 k (by omega)
  exact ⟨b, off, g1, g2, by rw [List.getElem_take]; exact g3⟩
end Go.Proofs.Ytjfiglkclpddaaa.kx
