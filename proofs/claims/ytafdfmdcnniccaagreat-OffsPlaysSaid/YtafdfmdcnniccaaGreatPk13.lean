/- Layer 4: calls as data; Do. -/
import Derived.Test.YtafdfmdcnniccaaGreatRows
import Derived.WalkKit
import Derived.ProofKit
import Derived.OpenShut
import Derived.Handy
import Derived.Deep.LoopGhost
import Derived.Lib.Hide
import Derived.Lib.Strings
import Derived.SizedLaws
import Derived.Maps.Own
import Derived.Maps.OwnOps
import Derived.Maps.OwnSet
import Derived.Maps.RangeWalk
import Derived.Deep.QuietTactic
import Derived.BigQuiet
import Derived.Deep.RegionHeld3
import Derived.Lib.ConvBytes
import Derived.Lib.AppendZeros
import Derived.Lib.AppendZerosOnto
import Derived.Lib.LazyBuf
import Derived.Shelf.Abstract
import Derived.LaidEql
import Derived.Lib.SliceRun
import Derived.StillTailTactics
import Derived.Deep.Slices
import Derived.Outline
import Derived.Test.YtafdfmdcnniccaaGreatPk12
namespace Go.Proofs.YtafdfmdcnniccaaGreat.dk
open Go.ChangeShapes Go.WideShapes Go.ChangeAt Go.RowKit

def opCells (o : OpS) (lv kv : Value) : List Value := [.int .i64 o.k, .int .i64 o.n, .string o.a, .string o.b, .string o.s, lv, kv, .int .i64 o.lack]
/-- What a call's data hang on. -/
structure OpIs (w : World) (lv kv : Value) (o : OpS) : Prop where
  l : RowsAt StrR 1 w lv o.l
  keep : RowsAt BoolR 1 w kv o.keep
  n : o.n ≤ 9223372036854775807
def OpR : Reads OpS := fun w cs o => ∃ lv kv, cs = opCells o lv kv ∧ OpIs w lv kv o
theorem OpIs.calm {w w' : World} {lv kv : Value} {o : OpS} (h : OpIs w lv kv o) (hc : Calm w w') : OpIs w' lv kv o := ⟨h.l.calm StrR.lasts hc, h.keep.calm BoolR.lasts hc, h.n⟩
theorem OpR.lasts : OpR.Lasts := fun _ _ _ _ ⟨lv, kv, e, h⟩ hc => ⟨lv, kv, e, h.calm hc⟩
section
variable {w w' : World} {p : Nat} {D : DiskS} {F : Nat → Prop}
theorem RowsAt_bools {v : Value} {l : List Bool} (h : RowsAt BoolR 1 w v l) : ∃ a cap, v = .slice a l.length cap ∧ l.length ≤ cap ∧ BoolsAt w a l := by
  obtain ⟨a, cap, rfl, h2, _, h4⟩ := h
  refine ⟨a, cap, rfl, h2, fun k hk => ?_⟩
  obtain ⟨b, off, cs, e, _, _, hcell, hr⟩ := h4 k hk
  refine ⟨b, off, e, ?_⟩
  have := hcell 0 (by omega)
  unfold BoolR at hr
  rw [hr] at this
  simpa using this

def DoDone (D : DiskS) (o : OpS) (p : Nat) (F : Nat → Prop) (w : World) (e : Ending) (w' : World) : Prop :=
  ∃ b F', w.heap.size ≤ b ∧ e = .returned (.int .i64 (D.does o b).1) ∧ DiskAt w' p (D.does o b).2 F' ∧ Step F w F' w'
theorem DoDone.of {o : OpS} {w1 : World} (hc : Calm w w1) {r : Int × DiskS} (hr : ∀ b, D.does o b = r) {F' : Nat → Prop} {n : Int} (hn : n = r.1) (hd : DiskAt w' p r.2 F') (hs : Step F w1 F' w') : DoDone D o p F w (.returned (.int .i64 n)) w' := by
  subst hn
  exact ⟨w.heap.size, F', Nat.le_refl _, by rw [hr], by rw [hr]; exact hd, Step.calm_left hc hs⟩

end
end Go.Proofs.YtafdfmdcnniccaaGreat.dk

/- Layer 4: crashes and calls as data, told of a disk that is good. -/
namespace Go.Proofs.YtafdfmdcnniccaaGreat.dk
open Go.ChangeShapes Go.WideShapes Go.ChangeAt Go.RowKit

section
variable {w w' : World} {p n : Nat} {D : DiskS} {F : Nat → Prop}
theorem Crash_ok (ka : Option Addr) (kcap : Nat) (keep : List Bool) (lack : Int) (w : World) (h : DiskOk w p D F n) (hn : n ≤ 1000000) (hk : BoolsAt w ka keep) (hap : Apart (.slice ka keep.length kcap) F) (hkc : keep.length ≤ kcap) (hkl : keep.length ≤ 1000000) :
    Calls Tryz.prog 18 #[ptrTo p, .agg #[.slice ka keep.length kcap, .int .i64 lack]] w fun e w' => e = .returned (.tuple #[]) ∧ ∃ F', DiskOk w' p (D.crashed keep lack) F' 0 ∧ Step F w F' w' :=
  (Crash_any ka kcap keep lack w h.lies hk hap hkc hkl (Nat.le_trans h.waits hn) (fun x hx => by have := h.good.wait h.form hx; omega) (fun f hf => by have := (h.good.file hf).2; omega)).mono fun _ _ ⟨he, F', hd, hs⟩ =>
    ⟨he, F', ⟨hd, (h.good.crashed _ _).1, Nat.le_refl _⟩, hs⟩
end
end Go.Proofs.YtafdfmdcnniccaaGreat.dk

/- Layer 14, plain: offsets, how they stand, and a rising list of them. -/
namespace Go.Proofs.YtafdfmdcnniccaaGreat.ofs
open Go.ChangeShapes Go.WideShapes Go.ChangeAt Go.RowKit
open Go.Proofs.YtafdfmdcnniccaaGreat.dk

structure OffS where
  group : ByteArray
  topic : ByteArray
  queue : Int
  at_ : Int
instance : Inhabited OffS := ⟨⟨⟨#[]⟩, ⟨#[]⟩, 0, 0⟩⟩
theorem less_irrefl : ∀ l : List UInt8, Op.bytesLess l l = false
  | [] => rfl
  | a :: l => by
    have h1 : ¬ a < a := fun h => by simp [UInt8.lt_iff_toNat_lt] at h
    simp [Op.bytesLess, less_irrefl l, h1]
theorem less_trans : ∀ {x y z : List UInt8}, Op.bytesLess x y = true → Op.bytesLess y z = true → Op.bytesLess x z = true
  | _, [], _, h, _ => by simp [Op.bytesLess] at h
  | _, _ :: _, [], _, h => by simp [Op.bytesLess] at h
  | [], _ :: _, _ :: _, _, _ => rfl
  | a :: x, b :: y, c :: z, h1, h2 => by
    simp only [Op.bytesLess, Bool.or_eq_true, Bool.and_eq_true, decide_eq_true_eq, beq_iff_eq] at h1 h2 ⊢
    rcases h1 with h1 | ⟨rfl, h1⟩
    · rcases h2 with h2 | ⟨rfl, h2⟩
      · exact .inl (by simp only [UInt8.lt_iff_toNat_lt] at *; omega)
      · exact .inl h1
    · rcases h2 with h2 | ⟨rfl, h2⟩
      · exact .inl h2
      · exact .inr ⟨rfl, less_trans h1 h2⟩
theorem less_conn : ∀ {x y : List UInt8}, Op.bytesLess x y = false → Op.bytesLess y x = false → x = y
  | [], [], _, _ => rfl
  | [], _ :: _, h, _ => by simp [Op.bytesLess] at h
  | _ :: _, [], _, h => by simp [Op.bytesLess] at h
  | a :: x, b :: y, h1, h2 => by
    simp only [Op.bytesLess, Bool.or_eq_false_iff, Bool.and_eq_false_imp, decide_eq_false_iff_not, beq_iff_eq] at h1 h2
    obtain ⟨n1, e1⟩ := h1
    obtain ⟨n2, e2⟩ := h2
    have hab : a = b := by
      simp only [UInt8.lt_iff_toNat_lt] at n1 n2
      exact UInt8.toNat_inj.1 (by omega)
    subst hab
    rw [less_conn (e1 rfl) (e2 rfl)]
/-- A text stands ahead of another one. -/
def bl (x y : ByteArray) : Bool := Op.bytesLess x.toList y.toList
theorem toList_inj {x y : ByteArray} (h : x.toList = y.toList) : x = y := ba_ext (by rw [← Lib.toList_data, ← Lib.toList_data]; exact h)
def cmpB (x y : ByteArray) : Int := if bl x y = true then -1 else if bl y x = true then 1 else 0
def cmpI (x y : Int) : Int := if x < y then -1 else if y < x then 1 else 0
def or3 (x y z : Int) : Int := if x ≠ 0 then x else if y ≠ 0 then y else z
/-- How offsets stand. -/
def ordO (a b : OffS) : Int := or3 (cmpB a.group b.group) (cmpB a.topic b.topic) (cmpI a.queue b.queue)
/-- Are they of the same? -/
def sameK (x y : OffS) : Bool := decide (y.group = x.group) && (decide (y.topic = x.topic) && decide (y.queue = x.queue))
theorem cmpB_zero {x y : ByteArray} : cmpB x y = 0 ↔ x = y := by
  unfold cmpB
  constructor
  · intro h
    split at h; cases h
    split at h; cases h
    rename_i h1 h2
    exact toList_inj (less_conn (by simpa [bl] using h1) (by simpa [bl] using h2))
  · rintro rfl
    have : bl x x = false := less_irrefl _
    rw [if_neg (by rw [this]; decide), if_neg (by rw [this]; decide)]
theorem cmpB_lt {x y : ByteArray} : cmpB x y < 0 ↔ bl x y = true := by
  unfold cmpB
  constructor
  · intro h
    split at h
    · assumption
    · split at h <;> omega
  · intro h; rw [if_pos h]; decide
theorem cmpI_zero {x y : Int} : cmpI x y = 0 ↔ x = y := by unfold cmpI; split <;> (try split) <;> omega
theorem cmpI_lt {x y : Int} : cmpI x y < 0 ↔ x < y := by unfold cmpI; split <;> (try split) <;> omega
theorem cmpB_anti (x y : ByteArray) : cmpB y x = - cmpB x y := by
  unfold cmpB
  cases h1 : bl x y <;> cases h2 : bl y x <;> simp
  have : bl x x = true := less_trans h1 h2
  rw [show bl x x = false from less_irrefl _] at this
  cases this
theorem cmpI_anti (x y : Int) : cmpI y x = - cmpI x y := by unfold cmpI; split <;> split <;> (try split) <;> omega
theorem cmpB_trans {x y z : ByteArray} (h1 : cmpB x y < 0) (h2 : cmpB y z < 0) : cmpB x z < 0 := cmpB_lt.2 (less_trans (cmpB_lt.1 h1) (cmpB_lt.1 h2))
theorem cmpI_trans {x y z : Int} (h1 : cmpI x y < 0) (h2 : cmpI y z < 0) : cmpI x z < 0 := cmpI_lt.2 (Int.lt_trans (cmpI_lt.1 h1) (cmpI_lt.1 h2))
theorem sameK_iff {x y : OffS} : sameK x y = true ↔ y.group = x.group ∧ y.topic = x.topic ∧ y.queue = x.queue := by simp [sameK]
theorem ord_zero {a b : OffS} : ordO a b = 0 ↔ sameK a b = true := by
  rw [sameK_iff]
  unfold ordO or3
  have h1 := @cmpB_zero a.group b.group
  have h2 := @cmpB_zero a.topic b.topic
  have h3 := @cmpI_zero a.queue b.queue
  constructor
  · intro h
    split at h
    · contradiction
    · split at h
      · contradiction
      · rename_i n1 n2
        exact ⟨(h1.1 (by simpa using n1)).symm, (h2.1 (by simpa using n2)).symm, (h3.1 h).symm⟩
  · rintro ⟨e1, e2, e3⟩
    rw [if_neg (fun h => h (h1.2 e1.symm)), if_neg (fun h => h (h2.2 e2.symm))]
    exact h3.2 e3.symm
theorem ord_anti (a b : OffS) : ordO b a = - ordO a b := by
  unfold ordO or3
  rw [cmpB_anti a.group b.group, cmpB_anti a.topic b.topic, cmpI_anti a.queue b.queue]
  by_cases h1 : cmpB a.group b.group = 0
  · by_cases h2 : cmpB a.topic b.topic = 0
    · simp [h1, h2]
    · simp [h1, h2]
  · simp [h1]
theorem ord_lt {a b : OffS} : ordO a b < 0 ↔ cmpB a.group b.group < 0 ∨ (a.group = b.group ∧ (cmpB a.topic b.topic < 0 ∨ (a.topic = b.topic ∧ a.queue < b.queue))) := by
  unfold ordO or3
  have h1 := @cmpB_zero a.group b.group
  have h2 := @cmpB_zero a.topic b.topic
  have h3 := @cmpI_lt a.queue b.queue
  by_cases e1 : cmpB a.group b.group = 0
  · rw [if_neg (fun h => h e1)]
    by_cases e2 : cmpB a.topic b.topic = 0
    · rw [if_neg (fun h => h e2), h3]
      simp [h1.1 e1, h2.1 e2, e1, e2, cmpB_zero.2]
    · rw [if_pos e2]
      have : a.topic ≠ b.topic := fun h => e2 (h2.2 h)
      simp [h1.1 e1, this, cmpB_zero.2]
  · rw [if_pos e1]
    have : a.group ≠ b.group := fun h => e1 (h1.2 h)
    simp [this]
theorem ord_trans {a b c : OffS} (h1 : ordO a b < 0) (h2 : ordO b c < 0) : ordO a c < 0 := by
  rw [ord_lt] at h1 h2 ⊢
  rcases h1 with h1 | ⟨e1, h1⟩
  · rcases h2 with h2 | ⟨e2, h2⟩
    · exact .inl (cmpB_trans h1 h2)
    · exact .inl (e2 ▸ h1)
  · rcases h2 with h2 | ⟨e2, h2⟩
    · exact .inl (e1 ▸ h2)
    · refine .inr ⟨e1.trans e2, ?_⟩
      rcases h1 with h1 | ⟨e3, h1⟩
      · rcases h2 with h2 | ⟨e4, h2⟩
        · exact .inl (cmpB_trans h1 h2)
        · exact .inl (e4 ▸ h1)
      · rcases h2 with h2 | ⟨e4, h2⟩
        · exact .inl (e3 ▸ h2)
        · exact .inr ⟨e3.trans e4, Int.lt_trans h1 h2⟩
theorem ord_same_l {a b c : OffS} (h : sameK a b = true) : ordO a c = ordO b c := by
  obtain ⟨e1, e2, e3⟩ := sameK_iff.1 h
  unfold ordO
  rw [e1, e2, e3]
theorem ord_same_r {a b c : OffS} (h : sameK a b = true) : ordO c a = ordO c b := by
  obtain ⟨e1, e2, e3⟩ := sameK_iff.1 h
  unfold ordO
  rw [e1, e2, e3]
theorem sameK_self (x : OffS) : sameK x x = true := sameK_iff.2 ⟨rfl, rfl, rfl⟩
theorem sameK_comm {x y : OffS} (h : sameK x y = true) : sameK y x = true := by
  obtain ⟨e1, e2, e3⟩ := sameK_iff.1 h
  exact sameK_iff.2 ⟨e1.symm, e2.symm, e3.symm⟩
/-- They rise. -/
def Rising (l : List OffS) : Prop := l.Pairwise fun a b => ordO a b < 0
/-- One is set. -/
def setO : List OffS → OffS → List OffS
  | [], x => [x]
  | y :: l, x => if ordO y x < 0 then y :: setO l x else if ordO y x = 0 then x :: l else x :: y :: l
def findO (l : List OffS) (x : OffS) : Option OffS := l.find? fun y => sameK x y
/-- How many stand ahead. -/
def placeO (l : List OffS) (x : OffS) : Nat := l.countP fun y => decide (ordO y x < 0)
theorem setO_mem : ∀ {l : List OffS} {x y : OffS}, y ∈ setO l x → y = x ∨ y ∈ l
  | [], x, y, h => .inl (by simpa [setO] using h)
  | z :: l, x, y, h => by
    unfold setO at h
    split at h
    · rcases List.mem_cons.1 h with rfl | h
      · exact .inr (List.mem_cons_self ..)
      · rcases setO_mem h with h | h
        · exact .inl h
        · exact .inr (List.mem_cons_of_mem _ h)
    · split at h
      · rcases List.mem_cons.1 h with rfl | h
        · exact .inl rfl
        · exact .inr (List.mem_cons_of_mem _ h)
      · rcases List.mem_cons.1 h with rfl | h
        · exact .inl rfl
        · exact .inr h
theorem Rising.set : ∀ {l : List OffS} (x : OffS), Rising l → Rising (setO l x)
  | [], x, _ => List.pairwise_singleton _ _
  | z :: l, x, h => by
    obtain ⟨h1, h2⟩ := List.pairwise_cons.1 h
    unfold setO
    split
    · rename_i hz
      refine List.pairwise_cons.2 ⟨fun y hy => ?_, Rising.set x h2⟩
      rcases setO_mem hy with rfl | hy
      · exact hz
      · exact h1 y hy
    · split
      · rename_i h0
        refine List.pairwise_cons.2 ⟨fun y hy => ?_, h2⟩
        rw [← ord_same_l (ord_zero.1 h0)]
        exact h1 y hy
      · rename_i hz h0
        have hx : ordO x z < 0 := by rw [ord_anti z x]; omega
        refine List.pairwise_cons.2 ⟨fun y hy => ?_, h⟩
        rcases List.mem_cons.1 hy with rfl | hy
        · exact hx
        · exact ord_trans hx (h1 y hy)
theorem find_none_lt : ∀ {l : List OffS} {x : OffS}, (∀ y ∈ l, ordO x y < 0) → findO l x = none := fun h => List.find?_eq_none.2 fun y hy hs => by
  have := h y hy
  rw [ord_zero.2 hs] at this
  omega
theorem set_find : ∀ {l : List OffS} (x y : OffS), Rising l → findO (setO l x) y = if sameK y x = true then some x else findO l y
  | [], x, y, _ => by
    unfold findO setO
    by_cases h : sameK y x = true <;> simp [h]
  | z :: l, x, y, h => by
    obtain ⟨h1, h2⟩ := List.pairwise_cons.1 h
    have ih := set_find (l := l) x y h2
    unfold findO at ih ⊢
    unfold setO
    split
    · rename_i hz
      rw [List.find?_cons, List.find?_cons, ih]
      by_cases hy : sameK y x = true
      · have hyz : sameK y z = false := by
          cases hb : sameK y z with
          | false => rfl
          | true =>
            have := ord_same_l (c := x) hb
            rw [ord_zero.2 hy] at this
            omega
        simp only [hyz, if_pos hy]
      · simp only [if_neg hy]
    · split
      · rename_i h0
        have hzx := ord_zero.1 h0
        rw [List.find?_cons, List.find?_cons]
        by_cases hy : sameK y x = true
        · simp only [hy, if_true]
        · have hyz : sameK y z = false := by
            cases hb : sameK y z with
            | false => rfl
            | true =>
              obtain ⟨a1, a2, a3⟩ := sameK_iff.1 hb
              obtain ⟨b1, b2, b3⟩ := sameK_iff.1 hzx
              exact absurd (sameK_iff.2 ⟨b1.trans a1, b2.trans a2, b3.trans a3⟩) hy
          simp only [Bool.eq_false_iff.2 hy, hyz, Bool.false_eq_true, if_false]
      · rw [List.find?_cons]
        by_cases hy : sameK y x = true
        · simp only [hy, if_true]
        · simp only [Bool.eq_false_iff.2 hy, Bool.false_eq_true, if_false]
/-- What is found is told by its place. -/
theorem set_place : ∀ (l : List OffS) (x : OffS), Rising l → (∀ t, t < placeO l x → ordO l[t]! x < 0) ∧ (∀ t, placeO l x ≤ t → t < l.length → 0 ≤ ordO l[t]! x) ∧ placeO l x ≤ l.length ∧
    setO l x = (if placeO l x < l.length ∧ ordO l[placeO l x]! x = 0 then l.take (placeO l x) ++ x :: l.drop (placeO l x + 1) else l.take (placeO l x) ++ x :: l.drop (placeO l x)) ∧
    findO l x = (if placeO l x < l.length ∧ ordO l[placeO l x]! x = 0 then some l[placeO l x]! else none)
  | [], x, _ => ⟨fun t h => by simp [placeO] at h, fun t _ h => by simp at h, Nat.le_refl _, by simp [placeO, setO], by simp [placeO, findO]⟩
  | z :: l, x, h => by
    obtain ⟨h1, h2⟩ := List.pairwise_cons.1 h
    obtain ⟨i1, i2, i3, i4, i5⟩ := set_place l x h2
    by_cases hz : ordO z x < 0
    · have hp : placeO (z :: l) x = placeO l x + 1 := by unfold placeO; rw [List.countP_cons_of_pos (by simpa using hz)]
      have hzx : sameK x z = false := by
        cases hb : sameK x z with
        | false => rfl
        | true => have := ord_zero.2 (sameK_comm hb); omega
      rw [hp]
      have hget : ∀ t, (z :: l)[t + 1]! = l[t]! := fun t => by simp
      refine ⟨fun t ht => ?_, fun t h3 h4 => ?_, by simp; omega, ?_, ?_⟩
      · cases t with
        | zero => simpa using hz
        | succ t => rw [hget]; exact i1 t (by omega)
      · cases t with
        | zero => omega
        | succ t => rw [hget]; exact i2 t (by omega) (by simpa using h4)
      · unfold setO
        rw [if_pos hz, i4, hget]
        simp only [List.length_cons, Nat.add_lt_add_iff_right, List.take_succ_cons, List.drop_succ_cons]
        split <;> simp
      · rw [hget]
        unfold findO at i5 ⊢
        rw [List.find?_cons, hzx, i5]
        simp only [List.length_cons, Nat.add_lt_add_iff_right]
    · have hall : ∀ y ∈ l, ¬ ordO y x < 0 := fun y hy hlt => hz (ord_trans (h1 y hy) hlt)
      have hp : placeO (z :: l) x = 0 := by
        unfold placeO
        rw [List.countP_eq_zero]
        intro y hy
        rcases List.mem_cons.1 hy with rfl | hy
        · simpa using hz
        · simpa using hall y hy
      rw [hp]
      refine ⟨fun t ht => absurd ht (Nat.not_lt_zero _), fun t _ h4 => ?_, Nat.zero_le _, ?_, ?_⟩
      · cases t with
        | zero => simp; omega
        | succ t =>
          have ht : t < l.length := by simpa using h4
          have := hall l[t] (List.getElem_mem ht)
          rw [show (z :: l)[t + 1]! = l[t] by simp [getElem!_pos, ht]]
          omega
      · unfold setO
        rw [if_neg hz]
        simp only [List.length_cons, Nat.zero_lt_succ, true_and, List.getElem!_cons_zero, List.take_zero, List.nil_append, Nat.zero_add, List.drop_succ_cons, List.drop_zero]
      · simp only [List.length_cons, Nat.zero_lt_succ, true_and, List.getElem!_cons_zero]
        unfold findO
        rw [List.find?_cons]
        by_cases h0 : ordO z x = 0
        · rw [if_pos h0, sameK_comm (ord_zero.1 h0)]
        · rw [if_neg h0]
          have hxz : sameK x z = false := by
            cases hb : sameK x z with
            | false => rfl
            | true => exact absurd (ord_zero.2 (sameK_comm hb)) h0
          rw [hxz]
          refine find_none_lt (l := l) fun y hy => ?_
          have h3 : ordO x z < 0 := by rw [ord_anti z x]; omega
          exact ord_trans h3 (h1 y hy)
theorem set_length (l : List OffS) (x : OffS) (h : Rising l) : (setO l x).length = if findO l x = none then l.length + 1 else l.length := by
  obtain ⟨_, _, i3, i4, i5⟩ := set_place l x h
  rw [i4, i5]
  split
  · rename_i hc
    obtain ⟨h1, _⟩ := hc
    simp only [List.length_append, List.length_take, List.length_cons, List.length_drop]
    rw [if_neg (by simp)]
    omega
  · simp only [List.length_append, List.length_take, List.length_cons, List.length_drop]
    rw [if_pos trivial]
    omega
/-- Rising lists that tell the same are one. -/
theorem rising_ext : ∀ {l m : List OffS}, Rising l → Rising m → (∀ y, findO l y = findO m y) → l = m
  | [], [], _, _, _ => rfl
  | [], b :: m, _, _, h => by
    have := h b
    unfold findO at this
    rw [List.find?_cons, sameK_self] at this
    cases this
  | a :: l, [], _, _, h => by
    have := h a
    unfold findO at this
    rw [List.find?_cons, sameK_self] at this
    cases this
  | a :: l, b :: m, h1, h2, h => by
    obtain ⟨p1, p2⟩ := List.pairwise_cons.1 h1
    obtain ⟨q1, q2⟩ := List.pairwise_cons.1 h2
    have ha := h a
    have hb := h b
    unfold findO at ha hb
    rw [List.find?_cons, sameK_self] at ha
    rw [List.find?_cons (a := b), sameK_self] at hb
    have hab : a = b := by
      rcases List.mem_cons.1 (List.mem_of_find?_eq_some ha.symm) with e | hm
      · exact e
      · rcases List.mem_cons.1 (List.mem_of_find?_eq_some hb) with e | hl
        · exact e.symm
        · have e1 := p1 b hl
          have e2 := q1 a hm
          have := ord_trans e1 e2
          rw [ord_zero.2 (sameK_self a)] at this
          omega
    subst hab
    refine congrArg _ (rising_ext p2 q2 fun y => ?_)
    have hy := h y
    unfold findO at hy ⊢
    rw [List.find?_cons, List.find?_cons] at hy
    cases hs : sameK y a with
    | false => rw [hs] at hy; exact hy
    | true =>
      have n1 : findO l y = none := find_none_lt fun z hz => by rw [ord_same_l hs]; exact p1 z hz
      have n2 : findO m y = none := find_none_lt fun z hz => by rw [ord_same_l hs]; exact q1 z hz
      unfold findO at n1 n2
      rw [n1, n2]
end Go.Proofs.YtafdfmdcnniccaaGreat.ofs

/- Small lemmas for regions that draw their order and only read. -/
namespace Go.Proofs.YtafdfmdcnniccaaGreat
open Go.ChangeShapes Go.WideShapes Go.ChangeAt Go.RowKit
theorem Calm.drewN {a w : World} (h : Calm a w) (n : Nat) : Calm a (w.drewN n) := ⟨h.os, h.tape, h.output, h.size, h.block⟩
end Go.Proofs.YtafdfmdcnniccaaGreat

/- Rows of numbers: read, made by append, compared. -/
namespace Go.Proofs.YtafdfmdcnniccaaGreat
open Go.ChangeShapes Go.WideShapes Go.ChangeAt Go.RowKit
open Go.Proofs.YtafdfmdcnniccaaGreat.dk

/-- A slice value that reads as a list of numbers. -/
def IntsAt (w : World) (v : Value) (l : List Int) : Prop :=
  ∃ a cap, v = .slice a l.length cap ∧ (l.length ≤ maxLen ∧ l.length ≤ cap) ∧ ∀ k (hk : k < l.length), ∃ b off, a = some ⟨b, off, none⟩ ∧ b < w.heap.size ∧ w.cell? ⟨b, off + k, none⟩ = some (.int .i64 l[k])
theorem IntsAt.calm {w w' : World} {v : Value} {l : List Int} (h : IntsAt w v l) (hc : Calm w w') : IntsAt w' v l := by
  obtain ⟨a, cap, h1, h2, h4⟩ := h
  refine ⟨a, cap, h1, h2, fun k hk => ?_⟩
  obtain ⟨b, off, e, hb, hcell⟩ := h4 k hk
  exact ⟨b, off, e, Nat.lt_of_lt_of_le hb hc.size, by rw [hc.cell (p := ⟨b, off + k, none⟩) hb]; exact hcell⟩

/-- All its blocks lie from B on. -/
def From (B : Nat) (v : Value) : Prop := ∀ b, v.ownBlock = some b → B ≤ b
theorem ints_keep {w w' : World} {v : Value} {l : List Int} {B : Nat} {F : Nat → Prop} (h : IntsAt w v l) (hv : From B v) (k : Keeps F w w') (hF : ∀ b, F b → b < B) : IntsAt w' v l := by
  obtain ⟨a, cap, rfl, h2, h4⟩ := h
  refine ⟨a, cap, rfl, h2, fun j hj => ?_⟩
  obtain ⟨b, off, rfl, hb, hcell⟩ := h4 j hj
  have hB := hv b rfl
  refine ⟨b, off, rfl, Nat.lt_of_lt_of_le hb k.size, ?_⟩
  rw [World.cell?_of_block (w := w) (a := ⟨b, off + j, none⟩) (k.block b hb (fun hf => by have := hF b hf; omega))]
  exact hcell
theorem RowsAt.ints {w : World} {v : Value} {l : List Int} (h : RowsAt (IntR .i64) 1 w v l) : IntsAt w v l ∧ ∀ x ∈ l, -9223372036854775808 ≤ x ∧ x ≤ 9223372036854775807 := by
  obtain ⟨a, cap, rfl, h2, h3, h4⟩ := h
  refine ⟨⟨a, cap, rfl, by omega, fun k hk => ?_⟩, fun x hx => ?_⟩
  · obtain ⟨b, off, cs, e, hb, hl, hcell, hr, _⟩ := h4 k hk
    subst hr
    have := hcell 0 (by omega)
    simp only [Nat.mul_one, Nat.add_zero] at this
    exact ⟨b, off, e, hb, this⟩
  · obtain ⟨i, hi, rfl⟩ := List.mem_iff_getElem.1 hx
    obtain ⟨_, _, _, _, _, _, _, _, hr⟩ := h4 i hi
    exact hr
abbrev intRow (l : List Int) : List Value := l.map fun n => .int .i64 n
theorem own_ints {w : World} {base : Nat} {v : Value} {l : List Int} (h : w.ownsRow base 3 1 v l.length (intRow l)) (hl : l.length ≤ 1000000) : IntsAt w v l ∧ From base v := by
  refine ⟨?_, fun b hb => (h.lt b hb).1⟩
  rcases h.2 with ⟨rfl, hn⟩ | ⟨g, cap, cur, rfl, hb, hg, hnc, hcm, hcs, htake⟩
  · have : l = [] := List.eq_nil_of_length_eq_zero hn
    subst this
    exact ⟨none, 0, rfl, ⟨Nat.zero_le _, Nat.zero_le _⟩, fun k hk => absurd hk (Nat.not_lt_zero _)⟩
  · refine ⟨_, cap, rfl, by omega, fun k hk => ⟨g, 0, rfl, heap_lt hg, ?_⟩⟩
    have := h.cells (g := g) rfl k (.int .i64 l[k]) (by simp [intRow, hk])
    rw [add_lit] at this
    rw [Nat.zero_add]
    exact this
theorem own_calm {w w' : World} {base n : Nat} {v : Value} {e : TypeId} {size : Nat} {xs : List Value} (h : w.ownsRow base e size v n xs) (hc : Calm w w') : w'.ownsRow base e size v n xs :=
  row_same h (fun g hg => hc.block g (h.lt g hg).2)
theorem infoInt : (Tryz.prog.info? 3).map (fun i => (i.zero, i.size, i.bytes)) = some (some (.int .i64 0), 1, 8) := by kernel_rfl
/-- 'append(row, n)' onto a row of one's own. -/
theorem append_int (w : World) (base : Nat) (v : Value) (l : List Int) (x : Int) (h : w.ownsRow base 3 1 v l.length (intRow l)) (hbase : base ≤ w.heap.size) (hl : l.length ≤ 1000000) (ty : TypeId) :
    ∃ v' w', (Builtin.append_ #[119, 119] ty #[v, .slice (some ⟨w.heap.size, 0, none⟩) 1 1]).run Tryz.prog (w.alloc (.cells #[.int .i64 x] 3)) = .ok v' w' ∧
      w'.ownsRow base 3 1 v' (l ++ [x]).length (intRow (l ++ [x])) ∧ Keeps (base ≤ ·) w w' := by
  obtain ⟨i0, hi, hz0, hz1, hz2⟩ := info_parts infoInt
  have hb := heap_new w (.cells #[.int .i64 x] 3)
  obtain ⟨v', w', h1, h2, h3, _⟩ := run_append_own (P := Tryz.prog) (w.alloc (.cells #[.int .i64 x] 3)) base 119 ty 3 i0 _ 1 8 Tryz.underlying119 hi hz0 hz1 hz2 (by kernel_rfl) (by decide) v l.length _ (h.alloc _) ⟨w.heap.size, 0, none⟩ 1 1 [.int .i64 x] rfl (fun j u hj => by
      rw [add_lit, cell_of hb]
      match j, hj with
      | 0, hj => exact hj
      | k + 1, hj => simp at hj) (fun u hu => by
      rcases List.mem_cons.1 hu with rfl | hu
      · rfl
      cases hu) (by simp only [maxLen]; omega) (by omega) (by rw [World.size_alloc]; omega)
  refine ⟨v', w', h1, ?_, ?_⟩
  · simpa [intRow] using h2
  · exact ((Keeps.refl (base ≤ ·) w).alloc _).grown h3 (fun k hk => .inl (h.lt k hk).1)

/-- A pair of numbers. -/
def PairR (k : IntKind) : Reads (Int × Int) := fun _ cs x => cs = [.int k x.1, .int k x.2] ∧ (k.min ≤ x.1 ∧ x.1 ≤ k.max) ∧ k.min ≤ x.2 ∧ x.2 ≤ k.max
theorem PairR.lasts (k : IntKind) : (PairR k).Lasts := fun _ _ _ _ h _ => h
theorem opens_pair {P : Program} {t e : TypeId} {k : IntKind} (ht : P.underlying t = some (.array 2 e)) (he : P.underlying e = some (.int k)) (hc : P.cellsOf e = 1) (hc2 : P.cellsOf t = 2) : Opens P t (PairR k) := fun H enc w base sp held fuel cs x h => by
  obtain ⟨xs, m, _, _, hlen, hxl, hg⟩ := DataW.trod_array ht h
  rw [hc2] at hlen
  rw [hc] at hg
  match cs, hlen with
  | [c0, c1], _ =>
    have g0 := hg 0 (by decide)
    have g1 := hg 1 (by decide)
    rw [List.getElem?_eq_getElem (by omega)] at g0 g1
    obtain ⟨a, ha, ha2⟩ := opens_int he _ _ _ _ _ _ _ _ _ g0
    obtain ⟨b, hb, hb2⟩ := opens_int he _ _ _ _ _ _ _ _ _ g1
    simp at ha hb
    exact ⟨(a, b), by rw [ha, hb], ha2, hb2⟩
theorem RowsAt.pairs {k : IntKind} {w : World} {v : Value} {l : List (Int × Int)} (h : RowsAt (PairR k) 2 w v l) : ∃ a cap, v = .slice a l.length cap ∧ l.length ≤ maxLen ∧ ∀ i (hi : i < l.length), ∃ b off, a = some ⟨b, off, none⟩ ∧ b < w.heap.size ∧
    w.cell? ⟨b, off + i * 2, none⟩ = some (.int k l[i].1) ∧ w.cell? ⟨b, off + i * 2 + 1, none⟩ = some (.int k l[i].2) ∧ (k.min ≤ l[i].1 ∧ l[i].1 ≤ k.max) ∧ k.min ≤ l[i].2 ∧ l[i].2 ≤ k.max := by
  obtain ⟨a, cap, rfl, h2, h3, h4⟩ := h
  refine ⟨a, cap, rfl, by omega, fun i hi => ?_⟩
  obtain ⟨b, off, cs, e, hb, hl, hcell, hr, hm⟩ := h4 i hi
  subst hr
  exact ⟨b, off, e, hb, hcell 0 (by omega), hcell 1 (by omega), hm⟩
theorem RowsAt.nums {k : IntKind} {w : World} {v : Value} {l : List Int} (h : RowsAt (IntR k) 1 w v l) : ∃ a cap, v = .slice a l.length cap ∧ l.length ≤ maxLen ∧ ∀ i (hi : i < l.length), ∃ b off, a = some ⟨b, off, none⟩ ∧ b < w.heap.size ∧
    w.cell? ⟨b, off + i, none⟩ = some (.int k l[i]) ∧ k.min ≤ l[i] ∧ l[i] ≤ k.max := by
  obtain ⟨a, cap, rfl, h2, h3, h4⟩ := h
  refine ⟨a, cap, rfl, by omega, fun i hi => ?_⟩
  obtain ⟨b, off, cs, e, hb, hl, hcell, hr, hm⟩ := h4 i hi
  subst hr
  have := hcell 0 (by omega)
  simp only [Nat.mul_one, Nat.add_zero] at this
  exact ⟨b, off, e, hb, this, hm⟩

end Go.Proofs.YtafdfmdcnniccaaGreat

/- A row of numbers of one's own, in a variable that a closure captures. -/
namespace Go.Proofs.YtafdfmdcnniccaaGreat
open Go.ChangeShapes Go.WideShapes Go.ChangeAt Go.RowKit
open Go.Proofs.YtafdfmdcnniccaaGreat.dk

theorem row_base {w : World} {e : TypeId} {size n B : Nat} {v : Value} {xs : List Value} (h : w.ownsRow 0 e size v n xs) (hb : ∀ g, v.ownBlock = some g → B ≤ g) : w.ownsRow B e size v n xs := by
  refine ⟨h.1, ?_⟩
  rcases h.2 with h2 | ⟨g, cap, cur, rfl, _, h3⟩
  · exact .inl h2
  · exact .inr ⟨g, cap, cur, rfl, hb g rfl, h3⟩
theorem row_zero {w : World} {e : TypeId} {size n B : Nat} {v : Value} {xs : List Value} (h : w.ownsRow B e size v n xs) : w.ownsRow 0 e size v n xs := by
  refine ⟨h.1, ?_⟩
  rcases h.2 with h2 | ⟨g, cap, cur, rfl, _, h3⟩
  · exact .inl h2
  · exact .inr ⟨g, cap, cur, rfl, Nat.zero_le _, h3⟩
/-- 'append(row, n)': in place, or in a new block. -/
theorem append_int2 (w : World) (base : Nat) (v : Value) (l : List Int) (x : Int) (h : w.ownsRow base 3 1 v l.length (intRow l)) (hbase : base ≤ w.heap.size) (hl : l.length ≤ 1000000) (ty : TypeId) :
    ∃ v' w', (Builtin.append_ #[119, 119] ty #[v, .slice (some ⟨w.heap.size, 0, none⟩) 1 1]).run Tryz.prog (w.alloc (.cells #[.int .i64 x] 3)) = .ok v' w' ∧
      w'.ownsRow base 3 1 v' (l ++ [x]).length (intRow (l ++ [x])) ∧ Keeps (fun g => v.ownBlock = some g) w w' ∧ ∀ g, v'.ownBlock = some g → v.ownBlock = some g ∨ w.heap.size ≤ g := by
  obtain ⟨i0, hi, hz0, hz1, hz2⟩ := info_parts infoInt
  have hb := heap_new w (.cells #[.int .i64 x] 3)
  obtain ⟨v', w', h1, h2, h3, h4⟩ := append_own (P := Tryz.prog) (w.alloc (.cells #[.int .i64 x] 3)) 119 ty 3 i0 _ 1 8 Tryz.underlying119 hi hz0 hz1 hz2 (by kernel_rfl) (by decide) v l.length _ (row_zero (h.alloc _)) ⟨w.heap.size, 0, none⟩ 1 1 (by decide) [.int .i64 x] rfl (fun j u hj => by
      rw [add_lit, cell_of hb]
      match j, hj with
      | 0, hj => exact hj
      | k + 1, hj => simp at hj) (fun u hu => by
      rcases List.mem_cons.1 hu with rfl | hu
      · rfl
      cases hu) (by simp only [maxLen]; omega) (by omega)
  have hg : ∀ g, v'.ownBlock = some g → v.ownBlock = some g ∨ w.heap.size ≤ g := fun g hg => by
    rcases h4 with h4 | h4
    · exact .inl (h4.symm.trans hg)
    · rw [h4] at hg
      cases hg
      exact .inr (by simp)
  refine ⟨v', w', h1, ?_, ?_, hg⟩
  · refine row_base ?_ (fun g e => ?_)
    · simpa [intRow] using h2
    · rcases hg g e with hg | hg
      · exact (h.lt g hg).1
      · omega
  · exact (((Keeps.refl (fun g => v.ownBlock = some g) w).alloc _).trans' (h3.mono (fun b _ h => h)))

/-- A variable of its own holds a row of numbers of its own. -/
structure OutIs (W : World) (blk B : Nat) (out : List Int) (G : Nat → Prop) : Prop where
  cell : ∃ v, W.heap[blk]? = some (.cells #[v] 119 (0, 0)) ∧ W.ownsRow B 3 1 v out.length (intRow out) ∧ ∀ b, G b ↔ b = blk ∨ v.ownBlock = some b
theorem OutIs.calm {W W' : World} {blk B : Nat} {out : List Int} {G : Nat → Prop} (h : OutIs W blk B out G) (hc : Calm W W') : OutIs W' blk B out G := by
  obtain ⟨v, h1, h2, h3⟩ := h.cell
  exact ⟨v, heap_calm hc h1, own_calm h2 hc, h3⟩
theorem OutIs.lt {W : World} {blk B : Nat} {out : List Int} {G : Nat → Prop} (h : OutIs W blk B out G) : ∀ b, G b → b < W.heap.size := fun b hb => by
  obtain ⟨v, h1, h2, h3⟩ := h.cell
  rcases (h3 b).1 hb with rfl | hb
  · exact heap_lt h1
  · exact (h2.lt b hb).2
theorem OutIs.made (w : World) : OutIs (w.alloc (.cells #[.slice none 0 0] 119)) w.heap.size w.heap.size [] (fun b => b = w.heap.size) :=
  ⟨.slice none 0 0, heap_new _ _, World.ownsRow_nil _ _ _ _, fun b => by simp [Value.ownBlock]⟩
theorem out_ne {W : World} {blk B : Nat} {v : Value} {out : List Int} (h1 : W.heap[blk]? = some (.cells #[v] 119 (0, 0))) (h2 : W.ownsRow B 3 1 v out.length (intRow out)) : v.ownBlock ≠ some blk := fun e => by
  obtain ⟨cur, hc⟩ := own_row h2 e
  rw [h1] at hc
  simp at hc
/-- What the run of 'out = append(out, x)' through a pointer leaves. -/
theorem out_append {W w2 : World} {blk B : Nat} {v v' : Value} {out : List Int} {x : Int} {G : Nat → Prop} (h1 : W.heap[blk]? = some (.cells #[v] 119 (0, 0))) (h2 : W.ownsRow B 3 1 v out.length (intRow out)) (h3 : ∀ b, G b ↔ b = blk ∨ v.ownBlock = some b)
    (hr : w2.ownsRow B 3 1 v' (out ++ [x]).length (intRow (out ++ [x]))) (hk : Keeps (fun g => v.ownBlock = some g) W w2) (hg : ∀ g, v'.ownBlock = some g → v.ownBlock = some g ∨ W.heap.size ≤ g) :
    w2.cell? ⟨blk, 0, none⟩ = some v ∧ w2.frozen? ⟨blk, 0, none⟩ = false ∧ blk < w2.heap.size ∧ OutIs (w2.setCell ⟨blk, 0, none⟩ v') blk B (out ++ [x]) (fun b => b = blk ∨ v'.ownBlock = some b) ∧ Step G W (fun b => b = blk ∨ v'.ownBlock = some b) (w2.setCell ⟨blk, 0, none⟩ v') := by
  have hne := out_ne h1 h2
  have hb := (hk.block blk (heap_lt h1) (fun e => hne e)).trans h1
  have hset := heap_set hb 0 v'
  have hne' : v'.ownBlock ≠ some blk := fun e => by
    rcases hg blk e with h | h
    · exact hne h
    · have := heap_lt h1; omega
  refine ⟨cell_of hb 0, free_of hb 0, heap_lt hb, ⟨v', hset, ?_, fun b => Iff.rfl⟩, ⟨?_, fun b hb => ?_⟩⟩
  · exact row_same hr (fun g e => heap_set_other (fun e2 => hne' (by rw [← e2]; exact e)) 0 v')
  · exact (hk.mono (fun b _ h => (h3 b).2 (.inr h))).setCell (p := ⟨blk, 0, none⟩) (.inl ((h3 blk).2 (.inl rfl))) v'
  · rcases hb with rfl | hb
    · exact .inl ((h3 _).2 (.inl rfl))
    · rcases hg b hb with h | h
      · exact .inl ((h3 b).2 (.inr h))
      · exact .inr h
theorem OutIs.ints {W : World} {blk B : Nat} {out : List Int} {G : Nat → Prop} (h : OutIs W blk B out G) (hl : out.length ≤ 1000000) : ∃ a n cap, W.cell? ⟨blk, 0, none⟩ = some (.slice a n cap) ∧ IntsAt W (.slice a n cap) out ∧ From B (.slice a n cap) ∧ blk < W.heap.size := by
  obtain ⟨v, h1, h2, h3⟩ := h.cell
  obtain ⟨i1, i2⟩ := own_ints h2 hl
  obtain ⟨a, cap, rfl, _⟩ := id i1
  exact ⟨a, _, cap, cell_of h1 0, i1, i2, heap_lt h1⟩
end Go.Proofs.YtafdfmdcnniccaaGreat
