/- Layer 12: an index's number and length. -/
import Derived.Test.YtjfiglkclpddaaaRows
import Derived.WalkKit
import Derived.ProofKit
import Derived.OpenShut
import Derived.Handy
import Derived.Deep.LoopGhost
import Derived.Lib.Hide
import Derived.Lib.Strings
import Derived.SizedLaws
import Derived.Maps.Own
import Derived.Maps.OwnOps
import Derived.Maps.OwnSet
import Derived.Maps.RangeWalk
import Derived.Deep.QuietTactic
import Derived.BigQuiet
import Derived.Deep.RegionHeld3
import Derived.Lib.ConvBytes
import Derived.Lib.AppendZeros
import Derived.Lib.AppendZerosOnto
import Derived.Lib.LazyBuf
import Derived.Shelf.Abstract
import Derived.LaidEql
import Derived.Lib.SliceRun
import Derived.StillTailTactics
import Derived.Deep.Slices
import Derived.Laws.MakeOwn
import Derived.Shelf.Strings.Builder1
import Derived.Shelf.Small.Bits
import Derived.Shelf.Small.Wraps
import Derived.Shelf.Strings.BuilderF
import Derived.Shelf.Strings.BuilderK
import Derived.Shelf.Strconv.Itoa0
import Derived.Shelf.Sort.Plain
import Derived.Shelf.GgClosure.StringsIndexFunc
import Derived.Ground.GgwProg
import Derived.Shelf.GgClosure.StringsIndexFuncTop
import Derived.Shelf.GgClosure.StringsRunes
import Derived.Shelf.Strings.Prefix
import Derived.Shelf.Strings.BuilderCap
import Derived.Shelf.Slices.In.SortNone
import Derived.Ground.SlgfProg
import Derived.Shelf.SlicesE.IndexFunc
import Derived.Shelf.SlicesE.DeleteFunc
import Derived.Test.YtjfiglkclpddaaaProg
import Derived.Lib.Builder
import Derived.Lib.AppendStr
import Derived.Shelf.SlIter.Nil
import Derived.Ground.GgzProg
import Derived.Shelf.SortM.Plain
import Derived.Shelf.SortM.SortNone
import Derived.Ground.SlgmProg
import Derived.Test.YtjfiglkclpddaaaPk15
namespace Go.Proofs.Ytjfiglkclpddaaa.kx
open Go.ChangeShapes Go.WideShapes Go.ChangeAt Go.RowKit
open Go.Proofs.Ytjfiglkclpddaaa.dk Go.Proofs.Ytjfiglkclpddaaa.oc Go.Proofs.Ytjfiglkclpddaaa.en Go.Proofs.Ytjfiglkclpddaaa.wh Go.Proofs.Ytjfiglkclpddaaa.nm

theorem strs_three {w : World} {b : Nat} {cap : Nat} {x y z : ByteArray} (h0 : w.cell? ⟨b, 0, none⟩ = some (.string x)) (h1 : w.cell? ⟨b, 1, none⟩ = some (.string y)) (h2 : w.cell? ⟨b, 2, none⟩ = some (.string z)) :
    StrsAt w (.slice (some ⟨b, 0, none⟩) 3 cap) [x, y, z] := by
  refine .inr ⟨b, 0, cap, rfl, fun k hk => ?_⟩
  match k, hk with
  | 0, _ => simpa using h0
  | 1, _ => simpa using h1
  | 2, _ => simpa using h2
/-- The number that two names give. -/
def numK (k o : ByteArray) : Nat := hashL (flatS [k, ⟨#[35]⟩, o])
set_option maxRecDepth 100000 in
theorem number_any (k o : ByteArray) (w : World) (hk : k.size ≤ 255) (ho : o.size ≤ 255) :
    Calls Try.prog 33 #[.string k, .string o] w fun e w' => e = .returned (.int .i64 (numK k o : Int)) ∧ Calm w w' := by
  have hn := heap_new w (.cells #[.string k, .string ⟨#[35]⟩, .string o] 9)
  have hh := box (Hash_any (.slice (some ⟨w.heap.size, 0, none⟩) 3 3) [k, ⟨#[35]⟩, o] (w.alloc (.cells #[.string k, .string ⟨#[35]⟩, .string o] 9)) (strs_three (cell_of hn 0) (cell_of hn 1) (cell_of hn 2)) (by simp) (by
    intro s hs
    simp only [List.mem_cons, List.not_mem_nil, or_false] at hs
    unfold maxLen
    rcases hs with rfl | rfl | rfl
    · omega
    · show 1 ≤ _; omega
    · omega))
  clear hn hk ho
  go_enter Try.func33, Try.ntmps33
  go_wp2_with fail
  refine hh.out.mono ?_
  rintro e w1 ⟨rfl, rfl⟩
  go_wp2_with fail
  go_ret
  exact ⟨rfl, (Calm.refl w).alloc _⟩
theorem Len_any (x p m : Nat) (w : World) (hx : IdxAt w x p m) :
    Calls Try.prog 18 #[ptrTo x] w fun e w' => e = .returned (.int .i64 (m : Int)) ∧ w = w' := by
  obtain ⟨c0, c1, f0, f1, hlt⟩ := hx.cells
  go_enter Try.func18, Try.ntmps18
  go_wp2_with fail
  go_ret
  exact ⟨rfl, rfl⟩
end Go.Proofs.Ytjfiglkclpddaaa.kx

/- Layer 12: an index's disk, after an entry was added: a plain law. -/
namespace Go.Proofs.Ytjfiglkclpddaaa.kx
open Go.ChangeShapes Go.WideShapes Go.ChangeAt Go.RowKit
open Go.Proofs.Ytjfiglkclpddaaa.dk Go.Proofs.Ytjfiglkclpddaaa.oc Go.Proofs.Ytjfiglkclpddaaa.en Go.Proofs.Ytjfiglkclpddaaa.wh Go.Proofs.Ytjfiglkclpddaaa.nm

theorem flat_set {α : Type} (f : α → List UInt8) (c : Nat) (hc : ∀ x, (f x).length = c) (v : α) : ∀ (l : List α) (i : Nat), i < l.length →
    (l.flatMap f).take (c * i) ++ f v ++ (l.flatMap f).drop (c * i + c) = (l.set i v).flatMap f
  | x :: l, 0, h => by
    simp only [List.flatMap_cons, Nat.mul_zero, List.take_zero, List.nil_append, List.set_cons_zero, Nat.zero_add]
    rw [List.drop_append_of_le_length (by rw [hc]; exact Nat.le_refl _), List.drop_of_length_le (by rw [hc]; exact Nat.le_refl _), List.nil_append]
  | x :: l, i + 1, h => by
    have ih := flat_set f c hc v l i (by simpa using h)
    simp only [List.flatMap_cons, List.set_cons_succ]
    rw [← ih]
    have e : c * (i + 1) = (f x).length + c * i := by rw [hc, Nat.mul_succ]; omega
    rw [e, List.take_length_add_append, Nat.add_assoc, List.drop_length_add_append]
    simp [List.append_assoc]
section
variable {D D1 : DiskS} {E : List Ln} {H : List Nat}
theorem bytes_ext {s t : ByteArray} (h : s.data.toList = t.data.toList) : s = t := by
  cases s with | mk s => cases t with | mk t => exact congrArg ByteArray.mk (Array.toList_inj.mp h)
theorem kxd_one (hk : KxD D E H) (hF : dk.Form D) (e : Ln) (hcap : ((20 * E.length + 44 : Nat) : Int) ≤ D.cap) :
    ∃ D1, D.write klinks ((E.length : Int) * 20) ⟨(lnB e).toArray⟩ = (0, D1) ∧ But D D1 klinks ⟨((E ++ [e]).flatMap lnB).toArray⟩ ∧ D1.size = D.size + 20 := by
  have hsz : (⟨(E.flatMap lnB).toArray⟩ : ByteArray).size = 20 * E.length := by rw [bytes_size, flat_length lnB 20 lnB_length]
  have hs2 : (⟨(lnB e).toArray⟩ : ByteArray).size = 20 := by rw [bytes_size, lnB_length]
  have hz := hk.size
  obtain ⟨D1, h1, h2, h3⟩ := write_but hk.alive hF hk.links (20 * E.length) ⟨(lnB e).toArray⟩ (by rw [hsz]; exact Nat.le_refl _) (by rw [hsz, hs2]; omega)
  refine ⟨D1, ?_, ?_, ?_⟩
  · rw [← h1]; congr 1; omega
  · have : laid ⟨(E.flatMap lnB).toArray⟩ (20 * E.length) ⟨(lnB e).toArray⟩ = ⟨((E ++ [e]).flatMap lnB).toArray⟩ := by
      refine bytes_ext ?_
      rw [← hsz, bytes_end]
      simp
    rw [← this]; exact h2
  · rw [h3, hsz, hs2]; omega
theorem kxd_two (hk : KxD D E H) (e : Ln) (he : LnOk e) (hn : E.length < 1000) (hcap : ((20 * E.length + 44 : Nat) : Int) ≤ D.cap) (hF : dk.Form D1) (hB : But D D1 klinks ⟨((E ++ [e]).flatMap lnB).toArray⟩) (hs : D1.size = D.size + 20) (b : Nat) (hb : b < 8) :
    ∃ D2, D1.write kslots (3 * (b : Int)) ⟨(low 3 (E.length + 1)).toArray⟩ = (0, D2) ∧ KxD D2 (E ++ [e]) (H.set b (E.length + 1)) ∧ D2.cap = D.cap := by
  have hsl : D1.bytes kslots = some ⟨(H.flatMap (low 3)).toArray⟩ := (hB.others kslots (by decide)).trans hk.slots
  have hsz : (⟨(H.flatMap (low 3)).toArray⟩ : ByteArray).size = 24 := by rw [bytes_size, flat_length (low 3) 3 (low_length 3), hk.len]
  have hs2 : (⟨(low 3 (E.length + 1)).toArray⟩ : ByteArray).size = 3 := by rw [bytes_size, low_length]
  have hz := hk.size
  obtain ⟨D2, h1, h2, h3⟩ := write_but hB.alive hF hsl (3 * b) ⟨(low 3 (E.length + 1)).toArray⟩ (by rw [hsz]; omega) (by rw [hsz, hs2, hB.cap, hs]; omega)
  refine ⟨D2, ?_, ?_, h2.cap.trans hB.cap⟩
  · rw [← h1]; congr 1
  · have hl : laid ⟨(H.flatMap (low 3)).toArray⟩ (3 * b) ⟨(low 3 (E.length + 1)).toArray⟩ = ⟨((H.set b (E.length + 1)).flatMap (low 3)).toArray⟩ := by
      refine bytes_ext ?_
      rw [bytes_laid _ _ _ (by rw [hsz, hs2]; omega), hs2]
      exact flat_set (low 3) 3 (low_length 3) (E.length + 1) H b (by rw [hk.len]; exact hb)
    rw [hl] at h2
    refine ⟨h2.alive, (h2.others klinks (by decide)).trans hB.this, h2.this, by rw [List.length_set, hk.len], ?_, ?_, ?_, ?_⟩
    · rw [h3, hsz, hs2, hs, hz, List.length_append, List.length_singleton]; omega
    · intro x hx
      rw [List.length_append, List.length_singleton]
      rcases List.mem_or_eq_of_mem_set hx with hx | rfl
      · have := hk.heads x hx; omega
      · exact Nat.le_refl _
    · intro x hx
      rcases List.mem_append.mp hx with hx | hx
      · exact hk.ok x hx
      · rw [List.mem_singleton.mp hx]; exact he
    · rw [List.length_append, List.length_singleton]; omega
end
end Go.Proofs.Ytjfiglkclpddaaa.kx

/- Layer 12: an index: Add. -/
namespace Go.Proofs.Ytjfiglkclpddaaa.kx
open Go.ChangeShapes Go.WideShapes Go.ChangeAt Go.RowKit
open Go.Proofs.Ytjfiglkclpddaaa.dk Go.Proofs.Ytjfiglkclpddaaa.oc Go.Proofs.Ytjfiglkclpddaaa.en Go.Proofs.Ytjfiglkclpddaaa.wh Go.Proofs.Ytjfiglkclpddaaa.nm
section
variable {p n : Nat} {D : DiskS} {F : Nat → Prop} {E : List Ln} {H : List Nat}
/-- What Add gives where nothing is wrong. -/
def AddDone (x p n : Nat) (D : DiskS) (F : Nat → Prop) (E : List Ln) (H : List Nat) (t k : ByteArray) (pos born : Nat) (w : World) (e : Ending) (w' : World) : Prop :=
  e = .returned (.int .i64 0) ∧ ∃ D' F', DiskOk w' p D' F' (n + 2) ∧ KxD D' (E ++ [⟨numK t k, pos, born, H.getD (numK t k % 8) 0⟩]) (H.set (numK t k % 8) (E.length + 1)) ∧ D'.cap = D.cap ∧
    IdxAt w' x p (E.length + 1) ∧ Step (fun b => F b ∨ b = x) w (fun b => F' b ∨ b = x) w'
set_option maxRecDepth 100000 in
set_option maxHeartbeats 2000000 in
theorem Add_any (x : Nat) (t k : ByteArray) (pos born : Nat) (w : World) (h : DiskOk w p D F n) (hn : n ≤ 1000) (hk : KxD D E H) (hfew : E.length < 1000) (hcap : ((20 * E.length + 44 : Nat) : Int) ≤ D.cap) (hx : IdxAt w x p E.length) (hxF : ¬ F x)
    (ht : topicB t = true) (hkk : nm.keyB k = true) (hts : t.size ≤ 255) (hks : k.size ≤ 255) (hp : pos ≤ 1099511627776) (hbn : born ≤ 1099511627776) :
    Calls Try.prog 12 #[ptrTo x, .string t, .string k, .int .i64 (pos : Int), .int .i64 (born : Int)] w (AddDone x p n D F E H t k pos born w) := by
  have hT := box (nm.Topic_any t w)
  rw [ht] at hT
  have hK := box (fun W => nm.Key_any k W (by unfold maxLen; omega))
  rw [hkk] at hK
  have hN := box (fun W => number_any t k W hts hks)
  obtain ⟨v, hv⟩ : ∃ v, numK t k = v := ⟨_, rfl⟩
  have hvl : v < 4294967296 := by rw [← hv]; exact hashFrom_lt 0 (by omega) _
  rw [hv] at hN
  unfold AddDone
  rw [hv]
  have g1 : decide ((pos : Int) < 0) = false := decide_eq_false (by omega)
  have g2 : decide ((pos : Int) > 1099511627776) = false := decide_eq_false (by omega)
  have g3 : decide ((born : Int) < 0) = false := decide_eq_false (by omega)
  have g4 : decide ((born : Int) > 1099511627776) = false := decide_eq_false (by omega)
  have hm : Int.tmod (v : Int) 8 = ((v % 8 : Nat) : Int) := by rw [Int.tmod_eq_emod_of_nonneg (by omega)]; omega
  have Hh := box h
  have Hk := box hk
  have Hx := box hx
  clear h hk hx hv
  go_enter Try.func12, Try.ntmps12
  go_wp2_with fail
  refine hT.out.mono ?_
  rintro e w1 ⟨rfl, hc1⟩
  have Hc1 := box hc1
  clear hc1
  go_wp2_with fail
  refine (hK.out _).mono ?_
  rintro e w2 ⟨rfl, rfl⟩
  go_wp2_with fail
  refine (hN.out _).mono ?_
  rintro e w3 ⟨rfl, hc3⟩
  have Hc3 := box (Hc1.out.trans hc3)
  clear hc3
  have hl := box (last_any x E.length (v % 8) w3 (Hh.out.calm Hc3.out) Hk.out (Hx.out.calm Hc3.out) (Nat.mod_lt _ (by decide)))
  rw [show ((v % 8 : Nat) : Int) = (v : Int) % 8 by omega] at hl
  go_wp2_with fail
  refine hl.out.mono ?_
  rintro e w4 ⟨rfl, hc4⟩
  have Hc4 := box (Hc3.out.trans hc4)
  clear hc4 hl
  have hh : H.getD (v % 8) 0 ≤ 1000 := by
    have h8 : v % 8 < H.length := by rw [Hk.out.len]; omega
    rw [List.getD_eq_getElem?_getD, List.getElem?_eq_getElem h8]
    exact Nat.le_trans (Hk.out.heads _ (List.getElem_mem h8)) Hk.out.few
  obtain ⟨g, hg⟩ : ∃ g, H.getD (v % 8) 0 = g := ⟨_, rfl⟩
  rw [hg] at hh
  rw [hg]
  have hok : LnOk ⟨v, pos, born, g⟩ := ⟨hvl, hp, hbn, by show g < _; omega⟩
  have hput := box (en.Link_put (v : Int) (pos : Int) (born : Int) (g : Int) w4 (by intro z hz; simp only [List.mem_cons, List.not_mem_nil, or_false] at hz; rcases hz with rfl | rfl | rfl | rfl <;> omega))
  have he := ln_ok hok
  have hpb : putB (lnL ⟨v, pos, born, g⟩) = ⟨(lnB ⟨v, pos, born, g⟩).toArray⟩ := by unfold putB; rw [if_pos he]; rfl
  unfold lnL at he hpb
  simp only at he hpb
  rw [he, hpb] at hput
  clear he hpb
  go_wp2_with fail
  refine hput.out.mono ?_
  rintro e w5 ⟨rfl, hc5⟩
  have Hc5 := box (Hc4.out.trans hc5)
  clear hc5 hput
  have hd5 := box (Hh.out.calm Hc5.out)
  have hx5 := Hx.out.calm Hc5.out
  obtain ⟨c0, c1, f0, f1, hlt⟩ := hx5.cells
  go_wp2_with fail
  obtain ⟨D1, k1, k2, k3⟩ := kxd_one Hk.out Hh.out.form ⟨v, pos, born, g⟩ hcap
  have hW := box (fun W (hc : Calm w5 W) => Calls.mono (Write_ok klinks ⟨(lnB ⟨v, pos, born, g⟩).toArray⟩ ((E.length : Int) * 20) W (hd5.out.calm hc) (by omega) (by rw [bytes_size, lnB_length]; omega)) fun _ _ hh => OkDone.at hh k1)
  have hwr : IntKind.i64.wrap ((E.length : Int) * 20) = (E.length : Int) * 20 := IntWalk.i64_in _ (by omega)
  have K2 := box k2
  have K3 := box k3
  have Hxl := box (heap_lt hx5)
  clear k1 k2 k3
  go_region_held3 (fun w' => w'.cell? ⟨x, 0, none⟩ = some (ptrTo p) ∧ w'.cell? ⟨x, 1, none⟩ = some (.int .i64 E.length)) (first | go_keep | exact (fun hh => ⟨hh.cells.1, hh.cells.2.1⟩) (IdxAt.keep (IdxAt.calm hx5 (by (repeat' (first | (with_reducible exact Calm.refl _) | (with_reducible assumption) | (with_reducible refine Calm.drew ?_) | (with_reducible refine Calm.alloc ?_ _) | (with_reducible refine Calm.trans ?_ (by assumption)))))) hs1.keeps hxF)) ((go_at_call 30; refine (hW.out _ (by (repeat' (first | (with_reducible exact Calm.refl _) | (with_reducible assumption) | (with_reducible refine Calm.drew ?_) | (with_reducible refine Calm.alloc ?_ _) | (with_reducible refine Calm.trans ?_ (by assumption)))))).mono ?_; rintro e w' ⟨rfl, F1, hd1, hs1⟩))
  have hx6 := IdxAt.keep (IdxAt.calm hx5 (show Calm w5 _ by (repeat' (first | (with_reducible exact Calm.refl _) | (with_reducible assumption) | (with_reducible refine Calm.drew ?_) | (with_reducible refine Calm.alloc ?_ _) | (with_reducible refine Calm.trans ?_ (by assumption)))))) hs1.keeps hxF
  have hs6 := box (Step.trans (Step.of_calm (F := F) (Calm.trans Hc5.out (show Calm w5 w5.drew by (repeat' (first | (with_reducible exact Calm.refl _) | (with_reducible assumption) | (with_reducible refine Calm.drew ?_) | (with_reducible refine Calm.alloc ?_ _) | (with_reducible refine Calm.trans ?_ (by assumption))))))) hs1)
  have Hd1 := box hd1
  have Hx6 := box hx6
  have hxF1 : ¬ F1 x := fun hf => (hs1.foot x hf).elim hxF (fun hl => by have := heap_lt hx5; have : w5.drew.heap.size = w5.heap.size := rfl; omega)
  obtain ⟨d0, d1, e0, e1, elt⟩ := hx6.cells
  have hwq : IntKind.i64.wrap ((E.length : Int) + 1) = (E.length : Int) + 1 := IntWalk.i64_in _ (by omega)
  clear hd1 hs1 hx6 hW hd5
  go_wp2_with fail
  have hnn := heap_new w' (.cells #[.int .i64 ((E.length : Int) + 1)] 3)
  have hnb : numB 3 [(E.length : Int) + 1] = (⟨(low 3 (E.length + 1)).toArray⟩, 0) := by
    have hfit : fitsN 3 ((E.length : Int) + 1) = true := by
      have a1 : ((E.length : Int) + 1) < 256 ^ 3 := by show _ < (16777216 : Int); omega
      unfold fitsN
      rw [decide_eq_true a1, decide_eq_true (show (0 : Int) ≤ (E.length : Int) + 1 by omega)]; rfl
    unfold numB lowN
    rw [if_neg (by decide), if_pos (by simp only [List.all_cons, List.all_nil, Bool.and_true]; exact hfit)]
    simp only [List.flatMap_cons, List.flatMap_nil, List.append_nil]
    rw [show ((E.length : Int) + 1).toNat = E.length + 1 by omega]; rfl
  have hnum := box (oc.Num_any 3 (some ⟨w'.heap.size, 0, none⟩) 1 [(E.length : Int) + 1] (w'.alloc (.cells #[.int .i64 ((E.length : Int) + 1)] 3)) (fun i hi => ⟨w'.heap.size, 0, rfl, heap_lt hnn, by
    have hi : i < 1 := hi
    match i, hi with
    | 0, _ => exact cell_of hnn 0⟩) (by simp) (by intro z hz; simp only [List.mem_cons, List.not_mem_nil, or_false] at hz; omega))
  rw [hnb] at hnum
  clear hnb hnn
  refine hnum.out.mono ?_
  rintro e w7 ⟨rfl, hc7⟩
  have Hc7 := box (Calm.trans ((Calm.refl w').alloc _) hc7)
  clear hc7 hnum
  have Hd7 := box (Hd1.out.calm Hc7.out)
  have Hx7 := box (Hx6.out.calm Hc7.out)
  obtain ⟨D2, k1, k2, k3⟩ := kxd_two Hk.out ⟨v, pos, born, g⟩ hok hfew hcap Hd1.out.form K2.out K3.out (v % 8) (Nat.mod_lt _ (by decide))
  rw [show ((v % 8 : Nat) : Int) = (v : Int) % 8 by omega] at k1
  have hV := box (Calls.mono (Write_ok kslots ⟨(low 3 (E.length + 1)).toArray⟩ (3 * ((v : Int) % 8)) w7 Hd7.out (by omega) (by rw [bytes_size, low_length]; omega)) fun _ _ hh => OkDone.at hh k1)
  have Kd := box k2
  have hwv : IntKind.i64.wrap (3 * ((v : Int) % 8)) = 3 * ((v : Int) % 8) := IntWalk.i64_in _ (by omega)
  clear k1 k2 d0 d1 e0 e1 elt
  obtain ⟨d0, d1, e0, e1, elt⟩ := Hx7.out.cells
  go_wp2_with fail
  refine hV.out.mono ?_
  rintro e w8 ⟨rfl, F2, hd8, hs8⟩
  have hx8 := IdxAt.keep Hx7.out hs8.keeps hxF1
  have hxF2 : ¬ F2 x := fun hf => (hs8.foot x hf).elim hxF1 (fun hl => by have := heap_lt Hx7.out; omega)
  have Hs8 := box (Step.trans hs6.out (Step.trans (Step.of_calm (F := F1) Hc7.out) hs8))
  have Hd8 := box hd8
  have Hx8 := box hx8
  clear hd8 hs8 hx8 hV d0 d1 e0 e1 elt
  obtain ⟨d0, d1, e0, e1, elt⟩ := Hx8.out.cells
  go_wp2_with fail
  go_ret
  refine ⟨rfl, D2, F2, Hd8.out.keep (G := fun b => b = x) (Keeps.setCell (F := fun b => b = x) (Keeps.refl _ _) (p := ⟨x, 1, none⟩) (.inl rfl) _) (fun b hb e => hxF2 (e ▸ hb)), by rw [hg]; exact Kd.out, k3, heap_set Hx8.out 1 _, ⟨Keeps.setCell (p := ⟨x, 1, none⟩) (Keeps.mono Hs8.out.keeps (fun b _ hb => .inl hb)) (.inl (.inr rfl)) _, fun b hb => ?_⟩⟩
  rcases hb with hb | hb
  · rcases Hs8.out.foot b hb with h | h
    · exact .inl (.inl h)
    · exact .inr h
  · exact .inl (.inr hb)
end
end Go.Proofs.Ytjfiglkclpddaaa.kx

/- Layer 12: an index: Add refused. -/
namespace Go.Proofs.Ytjfiglkclpddaaa.kx
open Go.ChangeShapes Go.WideShapes Go.ChangeAt Go.RowKit
open Go.Proofs.Ytjfiglkclpddaaa.dk Go.Proofs.Ytjfiglkclpddaaa.oc Go.Proofs.Ytjfiglkclpddaaa.en Go.Proofs.Ytjfiglkclpddaaa.wh Go.Proofs.Ytjfiglkclpddaaa.nm
set_option maxRecDepth 100000 in
set_option maxHeartbeats 2000000 in
theorem Add_name (x : Nat) (t k : ByteArray) (pos born : Int) (w : World) (hb : (topicB t && nm.keyB k) = false) (hks : k.size ≤ 255) :
    Calls Try.prog 12 #[ptrTo x, .string t, .string k, .int .i64 pos, .int .i64 born] w fun e w' => e = .returned (.int .i64 11) ∧ Calm w w' := by
  have hT := box (nm.Topic_any t w)
  have hK := box (fun W => nm.Key_any k W (by unfold maxLen; omega))
  cases ht : topicB t
  · rw [ht] at hT
    go_enter Try.func12, Try.ntmps12
    go_wp2_with fail
    refine hT.out.mono ?_
    rintro e w1 ⟨rfl, hc1⟩
    have Hc1 := box hc1
    clear hc1
    go_wp2_with fail
    go_ret
    exact ⟨rfl, Hc1.out⟩
  · rw [ht] at hT hb
    have hkf : nm.keyB k = false := by simpa using hb
    rw [hkf] at hK
    go_enter Try.func12, Try.ntmps12
    go_wp2_with fail
    refine hT.out.mono ?_
    rintro e w1 ⟨rfl, hc1⟩
    have Hc1 := box hc1
    clear hc1
    go_wp2_with fail
    refine (hK.out _).mono ?_
    rintro e w2 ⟨rfl, rfl⟩
    go_wp2_with fail
    go_ret
    exact ⟨rfl, Hc1.out⟩
end Go.Proofs.Ytjfiglkclpddaaa.kx

/- Layer 12: an index: Add refused. -/
namespace Go.Proofs.Ytjfiglkclpddaaa.kx
open Go.ChangeShapes Go.WideShapes Go.ChangeAt Go.RowKit
open Go.Proofs.Ytjfiglkclpddaaa.dk Go.Proofs.Ytjfiglkclpddaaa.oc Go.Proofs.Ytjfiglkclpddaaa.en Go.Proofs.Ytjfiglkclpddaaa.wh Go.Proofs.Ytjfiglkclpddaaa.nm
set_option maxRecDepth 100000 in
set_option maxHeartbeats 2000000 in
theorem Add_arg (x : Nat) (t k : ByteArray) (pos born : Int) (w : World) (ht : topicB t = true) (hkk : nm.keyB k = true) (hks : k.size ≤ 255) (hbad : (decide (pos < 0) || decide (pos > 1099511627776) || decide (born < 0) || decide (born > 1099511627776)) = true) :
    Calls Try.prog 12 #[ptrTo x, .string t, .string k, .int .i64 pos, .int .i64 born] w fun e w' => e = .returned (.int .i64 1) ∧ Calm w w' := by
  have hT := box (nm.Topic_any t w)
  have hK := box (fun W => nm.Key_any k W (by unfold maxLen; omega))
  rw [ht] at hT
  rw [hkk] at hK
  cases g1 : decide (pos < 0) <;> cases g2 : decide (pos > 1099511627776) <;> cases g3 : decide (born < 0) <;> cases g4 : decide (born > 1099511627776) <;> simp only [g1, g2, g3, g4, Bool.or_true, Bool.or_false, Bool.true_or, Bool.false_eq_true] at hbad <;> (
    clear hbad
    go_enter Try.func12, Try.ntmps12
    go_wp2_with fail
    refine hT.out.mono ?_
    rintro e w1 ⟨rfl, hc1⟩
    have Hc1 := box hc1
    clear hc1
    go_wp2_with fail
    refine (hK.out _).mono ?_
    rintro e w2 ⟨rfl, rfl⟩
    go_wp2_with fail
    go_ret
    exact ⟨rfl, Hc1.out⟩)
end Go.Proofs.Ytjfiglkclpddaaa.kx

/- Layer 12: an index made over a new disk. -/
namespace Go.Proofs.Ytjfiglkclpddaaa.kx
open Go.ChangeShapes Go.WideShapes Go.ChangeAt Go.RowKit
open Go.Proofs.Ytjfiglkclpddaaa.dk Go.Proofs.Ytjfiglkclpddaaa.oc Go.Proofs.Ytjfiglkclpddaaa.en Go.Proofs.Ytjfiglkclpddaaa.wh Go.Proofs.Ytjfiglkclpddaaa.nm
def NewDone (p : Nat) (D : DiskS) (F : Nat → Prop) (w : World) (e : Ending) (w' : World) : Prop :=
  ∃ x D' F', e = .returned (.tuple #[ptrTo x, .int .i64 0]) ∧ DiskOk w' p D' F' 1 ∧ KxD D' [] (List.replicate 8 0) ∧ D'.cap = D.cap ∧ IdxAt w' x p 0 ∧ w.heap.size ≤ x ∧ ¬ F' x ∧ Step F w F' w'
set_option maxRecDepth 100000 in
set_option maxHeartbeats 2000000 in
theorem New_any (p : Nat) (c : Int) (F : Nat → Prop) (w : World) (h : DiskOk w p (new c) F 0) (hc : 24 ≤ (new c).cap) :
    Calls Try.prog 10 #[ptrTo p] w (NewDone p (new c) F w) := by
  have hL := box (List_any ⟨#[120, 45]⟩ w h.lies (by intro f hf; cases hf) (by simp [new]))
  have Hh := box h
  unfold NewDone
  clear h
  go_enter Try.func10, Try.ntmps10
  go_wp2_with fail
  refine hL.out.mono ?_
  rintro e w1 ⟨v, rfl, hv, hc1, hfar⟩
  have hnil : (new c).names ⟨#[120, 45]⟩ = [] := by simp [DiskS.names, DiskS.namesL, new]
  rw [hnil] at hv
  obtain ⟨a, cap, rfl⟩ : ∃ a cap, v = .slice a 0 cap := by
    rcases hv with ⟨_, a, cap, e⟩ | ⟨b, off, cap, e, _⟩
    · exact ⟨a, cap, e⟩
    · exact ⟨_, cap, e⟩
  have Hc1 := box hc1
  have H1 := box (Hh.out.calm hc1)
  clear hc1 hfar hv hL
  go_wp2_with fail
  refine wp_loop_rounds 3 ?_
  rw [rounds_succ]
  go_wp2_with fail
  refine (Create_ok klinks _ (H1.out.calm (((Calm.refl w1).alloc _).alloc _))).mono ?_
  rintro e w2 ⟨b, hb, hok⟩
  obtain ⟨E1, q1, q2, q3⟩ := create_but (new_alive c) (new_bytes c klinks) b
  obtain ⟨rfl, F1, hd1, hs1⟩ := hok.at q1
  have hfl : ∀ b, F b → b < w1.heap.size := H1.out.foot_lt
  have n0 := heap_new (w1.alloc (.cells #[ptrTo p, .int .i64 0] 70)) (.cells #[.string klinks, .string kslots] 9)
  have n1 := (hs1.keeps.block _ (heap_lt n0) (fun hf => by have := hfl _ hf; simp at this; omega)).trans n0
  have x1 := (hs1.keeps.block _ (heap_lt (heap_old _ _ (heap_new w1 (.cells #[ptrTo p, .int .i64 0] 70)))) (fun hf => by have := hfl _ hf; omega)).trans (heap_old _ _ (heap_new w1 (.cells #[ptrTo p, .int .i64 0] 70)))
  have Hd1 := box hd1
  have Hs1 := box hs1
  simp only [World.size_alloc] at n1
  have nl := heap_lt n1
  have s0 := cell_of n1 0
  have s1 := cell_of n1 1
  clear hd1 hs1 hok
  go_wp2_with fail
  rw [rounds_succ]
  go_wp2_with fail
  refine (Create_ok kslots _ Hd1.out).mono ?_
  rintro e w3 ⟨b2, hb2, hok2⟩
  obtain ⟨E2, r1, r2, r3⟩ := create_but q2.alive ((q2.others kslots (by decide)).trans (new_bytes c kslots)) b2
  obtain ⟨rfl, F2, hd2, hs2⟩ := hok2.at r1
  have hx1 : ¬ F1 w1.heap.size := fun hf => (Hs1.out.foot _ hf).elim (fun h => by have := hfl _ h; omega) (fun h => by simp at h; omega)
  have x2 := (hs2.keeps.block _ (heap_lt x1) hx1).trans x1
  have hx2 : ¬ F2 w1.heap.size := fun hf => (hs2.foot _ hf).elim hx1 (fun h => by have := heap_lt x1; omega)
  have Hd2 := box hd2
  have Hs2 := box (Step.trans Hs1.out hs2)
  clear hd2 hs2 hok2
  go_wp2_with fail
  rw [rounds_succ]
  obtain ⟨mk1, mk2⟩ := made_string w3 24 24 rfl (by decide)
  go_wp2_with fail
  have hsz : (noughts 24).size = 24 := rfl
  obtain ⟨E3, t1, t2, t3⟩ := write_but r2.alive Hd2.out.form r2.this 0 (noughts 24) (Nat.le_refl _) (by rw [hsz, r2.cap, q2.cap, r3, q3, new_size]; show ((24 : Nat) : Int) ≤ (new c).cap - ((0 : Nat) : Int); omega)
  refine (Calls.mono (Write_ok kslots (noughts 24) 0 _ (Hd2.out.calm ((Calm.refl w3).alloc _)) (by decide) (by rw [hsz]; decide)) fun _ _ hh => OkDone.at hh t1).mono ?_
  rintro e w4 ⟨rfl, F3, hd3, hs3⟩
  have x3' := heap_old _ (.cells (madeCells #[Value.int .u8 0] 24) 5) x2
  have x3 := (hs3.keeps.block _ (heap_lt x3') hx2).trans x3'
  have hx3 : ¬ F3 w1.heap.size := fun hf => (hs3.foot _ hf).elim hx2 (fun h => by have := heap_lt x3'; omega)
  have Hd3 := box hd3
  have Hs3 := box (Step.trans Hs2.out (Step.trans (Step.of_calm ((Calm.refl w3).alloc _)) hs3))
  clear hd3 hs3
  go_wp2_with fail
  go_ret2
  refine ⟨w1.heap.size, E3, F3, rfl, Hd3.out, ⟨t2.alive, (t2.others klinks (by decide)).trans ((r2.others klinks (by decide)).trans q2.this), t2.this.trans (by rfl), rfl, (by rw [t3, r3, q3, new_size]; rfl), (fun z hz => by rw [List.eq_of_mem_replicate hz]; exact Nat.zero_le _), (fun z hz => absurd hz List.not_mem_nil), Nat.zero_le _⟩, t2.cap.trans (r2.cap.trans q2.cap), x3, Hc1.out.size, hx3, ?_⟩
  exact Step.trans (Step.of_calm (Calm.trans Hc1.out (((Calm.refl w1).alloc _).alloc _))) Hs3.out
end Go.Proofs.Ytjfiglkclpddaaa.kx

/- Small lemmas for regions that draw their order and only read. -/
namespace Go.Proofs.Ytjfiglkclpddaaa
open Go.ChangeShapes Go.WideShapes Go.ChangeAt Go.RowKit
theorem Calm.drewN {a w : World} (h : Calm a w) (n : Nat) : Calm a (w.drewN n) := ⟨h.os, h.tape, h.output, h.size, h.block⟩
end Go.Proofs.Ytjfiglkclpddaaa

/- Rows of numbers: read, made by append, compared. -/
namespace Go.Proofs.Ytjfiglkclpddaaa
open Go.ChangeShapes Go.WideShapes Go.ChangeAt Go.RowKit
open Go.Proofs.Ytjfiglkclpddaaa.dk

/-- A slice value that reads as a list of numbers. -/
def IntsAt (w : World) (v : Value) (l : List Int) : Prop :=
  ∃ a cap, v = .slice a l.length cap ∧ (l.length ≤ maxLen ∧ l.length ≤ cap) ∧ ∀ k (hk : k < l.length), ∃ b off, a = some ⟨b, off, none⟩ ∧ b < w.heap.size ∧ w.cell? ⟨b, off + k, none⟩ = some (.int .i64 l[k])
theorem IntsAt.calm {w w' : World} {v : Value} {l : List Int} (h : IntsAt w v l) (hc : Calm w w') : IntsAt w' v l := by
  obtain ⟨a, cap, h1, h2, h4⟩ := h
  refine ⟨a, cap, h1, h2, fun k hk => ?_⟩
  obtain ⟨b, off, e, hb, hcell⟩ := h4 k hk
  exact ⟨b, off, e, Nat.lt_of_lt_of_le hb hc.size, by rw [hc.cell (p := ⟨b, off + k, none⟩) hb]; exact hcell⟩

/-- All its blocks lie from B on. -/
def From (B : Nat) (v : Value) : Prop := ∀ b, v.ownBlock = some b → B ≤ b
theorem ints_keep {w w' : World} {v : Value} {l : List Int} {B : Nat} {F : Nat → Prop} (h : IntsAt w v l) (hv : From B v) (k : Keeps F w w') (hF : ∀ b, F b → b < B) : IntsAt w' v l := by
  obtain ⟨a, cap, rfl, h2, h4⟩ := h
  refine ⟨a, cap, rfl, h2, fun j hj => ?_⟩
  obtain ⟨b, off, rfl, hb, hcell⟩ := h4 j hj
  have hB := hv b rfl
  refine ⟨b, off, rfl, Nat.lt_of_lt_of_le hb k.size, ?_⟩
  rw [World.cell?_of_block (w := w) (a := ⟨b, off + j, none⟩) (k.block b hb (fun hf => by have := hF b hf; omega))]
  exact hcell
theorem RowsAt.ints {w : World} {v : Value} {l : List Int} (h : RowsAt (IntR .i64) 1 w v l) : IntsAt w v l ∧ ∀ x ∈ l, -9223372036854775808 ≤ x ∧ x ≤ 9223372036854775807 := by
  obtain ⟨a, cap, rfl, h2, h3, h4⟩ := h
  refine ⟨⟨a, cap, rfl, by omega, fun k hk => ?_⟩, fun x hx => ?_⟩
  · obtain ⟨b, off, cs, e, hb, hl, hcell, hr, _⟩ := h4 k hk
    subst hr
    have := hcell 0 (by omega)
    simp only [Nat.mul_one, Nat.add_zero] at this
    exact ⟨b, off, e, hb, this⟩
  · obtain ⟨i, hi, rfl⟩ := List.mem_iff_getElem.1 hx
    obtain ⟨_, _, _, _, _, _, _, _, hr⟩ := h4 i hi
    exact hr
abbrev intRow (l : List Int) : List Value := l.map fun n => .int .i64 n
theorem own_ints {w : World} {base : Nat} {v : Value} {l : List Int} (h : w.ownsRow base 3 1 v l.length (intRow l)) (hl : l.length ≤ 1000000) : IntsAt w v l ∧ From base v := by
  refine ⟨?_, fun b hb => (h.lt b hb).1⟩
  rcases h.2 with ⟨rfl, hn⟩ | ⟨g, cap, cur, rfl, hb, hg, hnc, hcm, hcs, htake⟩
  · have : l = [] := List.eq_nil_of_length_eq_zero hn
    subst this
    exact ⟨none, 0, rfl, ⟨Nat.zero_le _, Nat.zero_le _⟩, fun k hk => absurd hk (Nat.not_lt_zero _)⟩
  · refine ⟨_, cap, rfl, by omega, fun k hk => ⟨g, 0, rfl, heap_lt hg, ?_⟩⟩
    have := h.cells (g := g) rfl k (.int .i64 l[k]) (by simp [intRow, hk])
    rw [add_lit] at this
    rw [Nat.zero_add]
    exact this
theorem own_calm {w w' : World} {base n : Nat} {v : Value} {e : TypeId} {size : Nat} {xs : List Value} (h : w.ownsRow base e size v n xs) (hc : Calm w w') : w'.ownsRow base e size v n xs :=
  row_same h (fun g hg => hc.block g (h.lt g hg).2)
theorem infoInt : (Try.prog.info? 3).map (fun i => (i.zero, i.size, i.bytes)) = some (some (.int .i64 0), 1, 8) := by kernel_rfl
/-- 'append(row, n)' onto a row of one's own. -/
theorem append_int (w : World) (base : Nat) (v : Value) (l : List Int) (x : Int) (h : w.ownsRow base 3 1 v l.length (intRow l)) (hbase : base ≤ w.heap.size) (hl : l.length ≤ 1000000) (ty : TypeId) :
    ∃ v' w', (Builtin.append_ #[32, 32] ty #[v, .slice (some ⟨w.heap.size, 0, none⟩) 1 1]).run Try.prog (w.alloc (.cells #[.int .i64 x] 3)) = .ok v' w' ∧
      w'.ownsRow base 3 1 v' (l ++ [x]).length (intRow (l ++ [x])) ∧ Keeps (base ≤ ·) w w' := by
  obtain ⟨i0, hi, hz0, hz1, hz2⟩ := info_parts infoInt
  have hb := heap_new w (.cells #[.int .i64 x] 3)
  obtain ⟨v', w', h1, h2, h3, _⟩ := run_append_own (P := Try.prog) (w.alloc (.cells #[.int .i64 x] 3)) base 32 ty 3 i0 _ 1 8 Try.underlying32 hi hz0 hz1 hz2 (by kernel_rfl) (by decide) v l.length _ (h.alloc _) ⟨w.heap.size, 0, none⟩ 1 1 [.int .i64 x] rfl (fun j u hj => by
      rw [add_lit, cell_of hb]
      match j, hj with
      | 0, hj => exact hj
      | k + 1, hj => simp at hj) (fun u hu => by
      rcases List.mem_cons.1 hu with rfl | hu
      · rfl
      cases hu) (by simp only [maxLen]; omega) (by omega) (by rw [World.size_alloc]; omega)
  refine ⟨v', w', h1, ?_, ?_⟩
  · simpa [intRow] using h2
  · exact ((Keeps.refl (base ≤ ·) w).alloc _).grown h3 (fun k hk => .inl (h.lt k hk).1)

/-- A pair of numbers. -/
def PairR (k : IntKind) : Reads (Int × Int) := fun _ cs x => cs = [.int k x.1, .int k x.2] ∧ (k.min ≤ x.1 ∧ x.1 ≤ k.max) ∧ k.min ≤ x.2 ∧ x.2 ≤ k.max
theorem PairR.lasts (k : IntKind) : (PairR k).Lasts := fun _ _ _ _ h _ => h
theorem opens_pair {P : Program} {t e : TypeId} {k : IntKind} (ht : P.underlying t = some (.array 2 e)) (he : P.underlying e = some (.int k)) (hc : P.cellsOf e = 1) (hc2 : P.cellsOf t = 2) : Opens P t (PairR k) := fun H enc w base sp held fuel cs x h => by
  obtain ⟨xs, m, _, _, hlen, hxl, hg⟩ := DataW.trod_array ht h
  rw [hc2] at hlen
  rw [hc] at hg
  match cs, hlen with
  | [c0, c1], _ =>
    have g0 := hg 0 (by decide)
    have g1 := hg 1 (by decide)
    rw [List.getElem?_eq_getElem (by omega)] at g0 g1
    obtain ⟨a, ha, ha2⟩ := opens_int he _ _ _ _ _ _ _ _ _ g0
    obtain ⟨b, hb, hb2⟩ := opens_int he _ _ _ _ _ _ _ _ _ g1
    simp at ha hb
    exact ⟨(a, b), by rw [ha, hb], ha2, hb2⟩
theorem RowsAt.pairs {k : IntKind} {w : World} {v : Value} {l : List (Int × Int)} (h : RowsAt (PairR k) 2 w v l) : ∃ a cap, v = .slice a l.length cap ∧ l.length ≤ maxLen ∧ ∀ i (hi : i < l.length), ∃ b off, a = some ⟨b, off, none⟩ ∧ b < w.heap.size ∧
    w.cell? ⟨b, off + i * 2, none⟩ = some (.int k l[i].1) ∧ w.cell? ⟨b, off + i * 2 + 1, none⟩ = some (.int k l[i].2) ∧ (k.min ≤ l[i].1 ∧ l[i].1 ≤ k.max) ∧ k.min ≤ l[i].2 ∧ l[i].2 ≤ k.max := by
  obtain ⟨a, cap, rfl, h2, h3, h4⟩ := h
  refine ⟨a, cap, rfl, by omega, fun i hi => ?_⟩
  obtain ⟨b, off, cs, e, hb, hl, hcell, hr, hm⟩ := h4 i hi
  subst hr
  exact ⟨b, off, e, hb, hcell 0 (by omega), hcell 1 (by omega), hm⟩
theorem RowsAt.nums {k : IntKind} {w : World} {v : Value} {l : List Int} (h : RowsAt (IntR k) 1 w v l) : ∃ a cap, v = .slice a l.length cap ∧ l.length ≤ maxLen ∧ ∀ i (hi : i < l.length), ∃ b off, a = some ⟨b, off, none⟩ ∧ b < w.heap.size ∧
    w.cell? ⟨b, off + i, none⟩ = some (.int k l[i]) ∧ k.min ≤ l[i] ∧ l[i] ≤ k.max := by
  obtain ⟨a, cap, rfl, h2, h3, h4⟩ := h
  refine ⟨a, cap, rfl, by omega, fun i hi => ?_⟩
  obtain ⟨b, off, cs, e, hb, hl, hcell, hr, hm⟩ := h4 i hi
  subst hr
  have := hcell 0 (by omega)
  simp only [Nat.mul_one, Nat.add_zero] at this
  exact ⟨b, off, e, hb, this, hm⟩

/-- Are two lists one? -/
theorem Ints_any (v u : Value) (l m : List Int) (w : World) (h : IntsAt w v l) (g : IntsAt w u m) : Calls Try.prog 14 #[v, u] w fun e w' => e = .returned (.bool (decide (l = m))) ∧ Calm w w' := by
  obtain ⟨a, acap, rfl, hal, ha⟩ := h
  obtain ⟨b, bcap, rfl, hbl, hb⟩ := g
  by_cases hlen : l.length = m.length
  · have ha' := box ha
    have hb' := box hb
    have Hl := box hal
    unfold maxLen at hal
    clear ha hb hbl
    rw [← hlen]
    obtain ⟨rr, hrr⟩ : ∃ rr, decide (l = m) = rr := ⟨_, rfl⟩
    rw [hrr]
    have Hrr := box hrr.symm
    clear hrr
    go_enter Try.func14, Try.ntmps14
    go_wp2_with fail
    go_loopw [5] (fun i wr => ∃ k : Nat, k ≤ l.length ∧ i = .int .i64 k ∧ l.take k = m.take k ∧ Calm w wr) (fun i _ => l.length - (intOf i).toNat)
    case atStart => exact ⟨0, Nat.zero_le _, rfl, rfl, .refl _⟩
    case round =>
      obtain ⟨k, hk, rfl, hpre, hC⟩ := hrel
      have Hpre := box hpre
      have HC := box hC
      clear hpre hC
      by_cases hlt : k < l.length
      · obtain ⟨ab, aoff, rfl, hal2, hac⟩ := ha'.out k hlt
        obtain ⟨bb, boff, rfl, hbl2, hbc⟩ := hb'.out k (by omega)
        have hs1 := box (show l.take (k + 1) = l.take k ++ [l[k]] from List.take_succ_eq_append_getElem hlt)
        have hs2 := box (show m.take (k + 1) = m.take k ++ [m[k]'(by omega)] from List.take_succ_eq_append_getElem (by omega))
        have hne := box (fun (h : l[k] ≠ m[k]'(by omega)) => (decide_eq_false (fun e => h (by subst e; rfl)) : decide (l = m) = false))
        obtain ⟨x, hx⟩ : ∃ x, l[k] = x := ⟨_, rfl⟩
        obtain ⟨y, hy⟩ : ∃ y, m[k]'(by omega) = y := ⟨_, rfl⟩
        rw [hx] at hac hs1 hne
        rw [hy] at hbc hs2 hne
        clear hx hy
        have hac' := (HC.out.cell (p := ⟨ab, aoff + k, none⟩) hal2).trans hac
        have hbc' := (HC.out.cell (p := ⟨bb, boff + k, none⟩) hbl2).trans hbc
        have hal3 := Nat.lt_of_lt_of_le hal2 HC.out.size
        have hbl3 := Nat.lt_of_lt_of_le hbl2 HC.out.size
        have hki : (k : Int) < (l.length : Int) := by omega
        have hk0 : (0 : Int) ≤ (k : Int) := by omega
        clear hac hbc
        by_cases heq : x = y
        · subst heq
          go_wp2_with (first | go_quiet (fail) | fail)
          go_wp2_with fail
          go_roundw
          case rel => exact ⟨k + 1, by omega, by go_num, by rw [hs1.out, hs2.out, Hpre.out], HC.out.drewN _⟩
          case measure => simp [intOf]; omega
        · have hb1 : (x != y) = true := bne_iff_ne.2 heq
          have hne := box (hne.out heq)
          clear heq
          go_wp2_with (first | go_quiet (fail) | fail)
          go_wp2_with fail
          go_ret
          exact ⟨ret_bool (by rw [Hrr.out, hne.out]), HC.out.drewN _⟩
      · obtain rfl : k = l.length := by omega
        have hd : decide (l = m) = true := decide_eq_true (by
          have := Hpre.out
          rw [List.take_length, hlen, List.take_length] at this
          exact this)
        have hd := box hd
        go_wp2_with fail
        go_ret
        exact ⟨ret_bool (by rw [Hrr.out, hd.out]), HC.out⟩
  · have hd : decide (l = m) = false := decide_eq_false (fun e => hlen (by rw [e]))
    have hne : (l.length == m.length) = false := by rw [beq_eq_false_iff_ne]; exact hlen
    rw [hd]
    clear hd ha hb
    go_enter Try.func14, Try.ntmps14
    go_wp2_with fail
    all_goals first | (go_ret; exact ⟨rfl, .refl _⟩) | (exfalso; omega)
end Go.Proofs.Ytjfiglkclpddaaa

/- Layer 11: along a bucket's chain. -/
namespace Go.Proofs.Ytjfiglkclpddaaa.kx
open Go.ChangeShapes Go.WideShapes Go.ChangeAt Go.RowKit
open Go.Proofs.Ytjfiglkclpddaaa.dk Go.Proofs.Ytjfiglkclpddaaa.oc Go.Proofs.Ytjfiglkclpddaaa.en Go.Proofs.Ytjfiglkclpddaaa.wh Go.Proofs.Ytjfiglkclpddaaa.nm

/-- Chains fall. -/
def Falls (E : List Ln) : Prop := ∀ i (h : i < E.length), E[i].ahead ≤ i
/-- Along a chain from entry n on: what the state comes to. -/
def alongS {α : Type} (E : List Ln) (stp : α → Nat → Ln → α) (go : α → Nat → Ln → Bool) : Nat → Nat → α → α
  | 0, _, s => s
  | _ + 1, 0, s => s
  | f + 1, i + 1, s => match E[i]? with
    | none => s
    | some e => if go s (i + 1) e then alongS E stp go f e.ahead (stp s (i + 1) e) else stp s (i + 1) e
abbrev lnV (e : Ln) : Value := .agg #[.int .i64 (e.h : Int), .int .i64 (e.pos : Int), .int .i64 (e.born : Int), .int .i64 (e.ahead : Int)]
/-- What a closure of a state asks: the state lies in the blocks of G; at most m more calls. -/
structure Clo {α : Type} (E : List Ln) (R : α → Nat → (Nat → Prop) → World → Prop) (stp : α → Nat → Ln → α) (go : α → Nat → Ln → Bool) (K : Nat) (caps : List Value) : Prop where
  lt : ∀ s m G W, R s m G W → ∀ b, G b → b < W.heap.size
  calm : ∀ s m G W W', R s m G W → Calm W W' → R s m G W'
  down : ∀ s m m' G W, R s m G W → m' ≤ m → R s m' G W
  enters : EntersF K
  call : ∀ s G i (hi : i < E.length) W, R s (i + 1) G W → Calls Try.prog K (Value.int .i64 ((i : Int) + 1) :: lnV E[i] :: caps).toArray W fun e w' => e = .returned (.bool (go s (i + 1) E[i])) ∧ ∃ G', R (stp s (i + 1) E[i]) i G' w' ∧ Step G W G' w'
section
variable {p n : Nat} {D : DiskS} {F : Nat → Prop} {E : List Ln} {H : List Nat}
set_option maxRecDepth 100000 in
set_option maxHeartbeats 4000000 in
theorem along1_any {α : Type} (R : α → Nat → (Nat → Prop) → World → Prop) (stp : α → Nat → Ln → α) (go : α → Nat → Ln → Bool) (K : Nat) (c1 : Value) (hC : Clo E R stp go K [c1])
    (x m b : Nat) (w : World) (s0 : α) (G : Nat → Prop) (h : DiskOk w p D F n) (hk : KxD D E H) (hfall : Falls E) (hx : IdxAt w x p m) (hb : b < 8) (hR : R s0 (H.getD b 0) G w) (hFG : ∀ b, F b → ¬ G b) (hxG : ¬ G x) :
    Calls Try.prog 37 #[ptrTo x, .int .i64 (b : Int), .func (.func K) #[] #[c1]] w fun e w' => e = .returned (.int .i64 0) ∧ ∃ m' G', R (alongS E stp go (H.getD b 0) (H.getD b 0) s0) m' G' w' ∧ Step G w G' w' := by
  have hbl : b < H.length := by rw [hk.len]; exact hb
  have htop : H.getD b 0 ≤ E.length := by rw [List.getD_eq_getElem?_getD, List.getElem?_eq_getElem hbl]; exact hk.heads _ (List.getElem_mem _)
  have hlast := box (last_any x m b w h hk hx hb)
  have hlink := box (fun (W : World) (G' : Nat → Prop) (hs : Step G w G' W) (i : Nat) (hi : i < E.length) => link_any x m i W (h.keep hs.keeps hFG) hk (hx.keep hs.keeps hxG) hi)
  have hfew := hk.few
  have Hfall := box hfall
  have HC := box hC
  have hen := hC.enters
  unfold EntersF at hen
  have hxl := heap_lt hx
  obtain ⟨t, ht⟩ : ∃ t, H.getD b 0 = t := ⟨_, rfl⟩
  rw [ht] at hlast hR htop
  rw [ht]
  have HR := box hR
  clear h hk hx hb hbl ht hfall hC hR
  obtain ⟨fin, hfin⟩ : ∃ fin, alongS E stp go t t s0 = fin := ⟨_, rfl⟩
  rw [hfin]
  have Hfin := box hfin
  clear hfin
  go_enter Try.func37, Try.ntmps37
  go_wp2_with fail
  refine hlast.out.mono ?_
  rintro e w1 ⟨rfl, hc1⟩
  have Hc1 := box hc1
  clear hc1
  go_wp2_with fail
  go_loopw [7, 8] (fun nv ev wr => ∃ (k f : Nat) (s : α) (G' : Nat → Prop), k ≤ f ∧ k ≤ E.length ∧ nv = .int .i64 k ∧ ev = .int .i64 0 ∧ alongS E stp go f k s = fin ∧ R s k G' wr ∧ Step G w G' wr) (fun nv _ _ => (intOf nv).toNat)
  case atStart => exact ⟨t, t, s0, G, Nat.le_refl _, htop, rfl, rfl, Hfin.out, HC.out.calm _ _ _ _ _ HR.out Hc1.out, Step.of_calm Hc1.out⟩
  case round =>
    obtain ⟨k, f, s, G', hkf, hkE, rfl, rfl, hal, hR, hS⟩ := hrel
    have Hal := box hal
    have HR := box hR
    have HS := box hS
    have HL := box (HC.out.lt _ _ _ _ hR)
    clear hal hR hS
    obtain ⟨wo, hwo⟩ : ∃ wo : World, wo = wr := ⟨_, rfl⟩
    subst hwo
    cases k with
    | zero =>
      have hend := box (show fin = s by rw [← Hal.out]; cases f <;> rfl)
      go_wp2_with fail
      go_ret
      exact ⟨rfl, 0, G', by rw [hend.out]; exact HR.out, HS.out⟩
    | succ i =>
      cases f with
      | zero => omega
      | succ f =>
        have hi : i < E.length := by omega
        have hnew : wo.heap.size = wo.heap.size := rfl
        have hal2 := Hal.out
        rw [alongS, List.getElem?_eq_getElem hi] at hal2
        simp only at hal2
        have Hal2 := box hal2
        have hah := box (Hfall.out i hi)
        have hcl := box (HC.out.call s G' i hi)
        clear hal2 Hal
        have Hn := box (heap_new wo (.cells #[.int .i64 0, .int .i64 0, .int .i64 0, .int .i64 0] 82))
        have Ha := box ((Calm.refl wo).alloc (.cells #[.int .i64 0, .int .i64 0, .int .i64 0, .int .i64 0] 82))
        have hlk := box (hlink.out _ G' (HS.out.calm Ha.out) i hi)
        obtain ⟨e, he⟩ : ∃ e, E[i] = e := ⟨_, rfl⟩
        rw [he] at Hal2 hah hcl hlk
        clear he
        go_wp2_with fail
        refine hlk.out.mono ?_
        rintro e2 w2 ⟨rfl, hc2⟩
        have Hc2 := box hc2
        have j0 := (hc2.block _ (heap_lt Hn.out)).trans Hn.out
        have r0 := cell_of j0 0
        have r1 := cell_of j0 1
        have r2 := cell_of j0 2
        have r3 := cell_of j0 3
        have q0 := free_of j0 0
        have q1 := free_of j0 1
        have q2 := free_of j0 2
        have q3 := free_of j0 3
        have jlt := heap_lt j0
        clear hc2
        have HK := box ((((((Keeps.of_calm (F := fun b => wo.heap.size ≤ b) (Ha.out.trans Hc2.out)).setCell (p := ⟨wo.heap.size, 0, none⟩) (.inl (Nat.le_refl _)) (.int .i64 (e.h : Int))).setCell (p := ⟨wo.heap.size, 1, none⟩) (.inl (Nat.le_refl _)) (.int .i64 (e.pos : Int))).setCell (p := ⟨wo.heap.size, 2, none⟩) (.inl (Nat.le_refl _)) (.int .i64 (e.born : Int))).setCell (p := ⟨wo.heap.size, 3, none⟩) (.inl (Nat.le_refl _)) (.int .i64 (e.ahead : Int))).below (B := wo.heap.size) (Nat.le_refl _) (fun _ h => h))
        have Hj4 := box (heap_set (heap_set (heap_set (heap_set j0 0 (.int .i64 (e.h : Int))) 1 (.int .i64 (e.pos : Int))) 2 (.int .i64 (e.born : Int))) 3 (.int .i64 (e.ahead : Int)))
        clear j0
        obtain ⟨gv, hgv⟩ : ∃ gv, go s (i + 1) e = gv := ⟨_, rfl⟩
        rw [hgv] at Hal2 hcl
        clear hgv
        cases gv
        · have Hal2 := box (show stp s (i + 1) e = fin by have := Hal2.out; simpa using this)
          go_wp2_with fail
          refine (hcl.out _ (HC.out.calm _ _ _ _ _ HR.out HK.out)).mono ?_
          rintro e3 w3 ⟨rfl, G3, hR3, hS3⟩
          have HR3 := box hR3
          have HS3 := box (Step.trans (HS.out.calm HK.out) hS3)
          clear hR3 hS3
          go_wp2_with fail
          go_ret
          exact ⟨rfl, i, G3, by rw [← Hal2.out]; exact HR3.out, HS3.out⟩
        · have Hal2 := box (show alongS E stp go f e.ahead (stp s (i + 1) e) = fin by have := Hal2.out; simpa using this)
          go_wp2_with fail
          refine (hcl.out _ (HC.out.calm _ _ _ _ _ HR.out HK.out)).mono ?_
          rintro e3 w3 ⟨rfl, G3, hR3, hS3⟩
          have HR3 := box hR3
          have HS3 := box (Step.trans (HS.out.calm HK.out) hS3)
          have k0 := hS3.same Hj4.out (fun hg => by have := HL.out _ hg; omega)
          have d3 : w3.cell? ⟨wo.heap.size, 3, none⟩ = some (.int .i64 (e.ahead : Int)) := cell_of k0 3
          have dlt := heap_lt k0
          clear hR3 hS3 k0
          go_wp2_with fail
          go_roundw
          case rel => exact ⟨e.ahead, f, _, G3, by have := hah.out; omega, by have := hah.out; omega, rfl, rfl, Hal2.out, HC.out.down _ _ _ _ _ HR3.out hah.out, HS3.out⟩
          case measure => simp [intOf]; have := hah.out; omega
set_option maxRecDepth 100000 in
set_option maxHeartbeats 4000000 in
theorem along4_any {α : Type} (R : α → Nat → (Nat → Prop) → World → Prop) (stp : α → Nat → Ln → α) (go : α → Nat → Ln → Bool) (K : Nat) (c1 c2 c3 c4 : Value) (hC : Clo E R stp go K [c1, c2, c3, c4])
    (x m b : Nat) (w : World) (s0 : α) (G : Nat → Prop) (h : DiskOk w p D F n) (hk : KxD D E H) (hfall : Falls E) (hx : IdxAt w x p m) (hb : b < 8) (hR : R s0 (H.getD b 0) G w) (hFG : ∀ b, F b → ¬ G b) (hxG : ¬ G x) :
    Calls Try.prog 37 #[ptrTo x, .int .i64 (b : Int), .func (.func K) #[] #[c1, c2, c3, c4]] w fun e w' => e = .returned (.int .i64 0) ∧ ∃ m' G', R (alongS E stp go (H.getD b 0) (H.getD b 0) s0) m' G' w' ∧ Step G w G' w' := by
  have hbl : b < H.length := by rw [hk.len]; exact hb
  have htop : H.getD b 0 ≤ E.length := by rw [List.getD_eq_getElem?_getD, List.getElem?_eq_getElem hbl]; exact hk.heads _ (List.getElem_mem _)
  have hlast := box (last_any x m b w h hk hx hb)
  have hlink := box (fun (W : World) (G' : Nat → Prop) (hs : Step G w G' W) (i : Nat) (hi : i < E.length) => link_any x m i W (h.keep hs.keeps hFG) hk (hx.keep hs.keeps hxG) hi)
  have hfew := hk.few
  have Hfall := box hfall
  have HC := box hC
  have hen := hC.enters
  unfold EntersF at hen
  have hxl := heap_lt hx
  obtain ⟨t, ht⟩ : ∃ t, H.getD b 0 = t := ⟨_, rfl⟩
  rw [ht] at hlast hR htop
  rw [ht]
  have HR := box hR
  clear h hk hx hb hbl ht hfall hC hR
  obtain ⟨fin, hfin⟩ : ∃ fin, alongS E stp go t t s0 = fin := ⟨_, rfl⟩
  rw [hfin]
  have Hfin := box hfin
  clear hfin
  go_enter Try.func37, Try.ntmps37
  go_wp2_with fail
  refine hlast.out.mono ?_
  rintro e w1 ⟨rfl, hc1⟩
  have Hc1 := box hc1
  clear hc1
  go_wp2_with fail
  go_loopw [7, 8] (fun nv ev wr => ∃ (k f : Nat) (s : α) (G' : Nat → Prop), k ≤ f ∧ k ≤ E.length ∧ nv = .int .i64 k ∧ ev = .int .i64 0 ∧ alongS E stp go f k s = fin ∧ R s k G' wr ∧ Step G w G' wr) (fun nv _ _ => (intOf nv).toNat)
  case atStart => exact ⟨t, t, s0, G, Nat.le_refl _, htop, rfl, rfl, Hfin.out, HC.out.calm _ _ _ _ _ HR.out Hc1.out, Step.of_calm Hc1.out⟩
  case round =>
    obtain ⟨k, f, s, G', hkf, hkE, rfl, rfl, hal, hR, hS⟩ := hrel
    have Hal := box hal
    have HR := box hR
    have HS := box hS
    have HL := box (HC.out.lt _ _ _ _ hR)
    clear hal hR hS
    obtain ⟨wo, hwo⟩ : ∃ wo : World, wo = wr := ⟨_, rfl⟩
    subst hwo
    cases k with
    | zero =>
      have hend := box (show fin = s by rw [← Hal.out]; cases f <;> rfl)
      go_wp2_with fail
      go_ret
      exact ⟨rfl, 0, G', by rw [hend.out]; exact HR.out, HS.out⟩
    | succ i =>
      cases f with
      | zero => omega
      | succ f =>
        have hi : i < E.length := by omega
        have hnew : wo.heap.size = wo.heap.size := rfl
        have hal2 := Hal.out
        rw [alongS, List.getElem?_eq_getElem hi] at hal2
        simp only at hal2
        have Hal2 := box hal2
        have hah := box (Hfall.out i hi)
        have hcl := box (HC.out.call s G' i hi)
        clear hal2 Hal
        have Hn := box (heap_new wo (.cells #[.int .i64 0, .int .i64 0, .int .i64 0, .int .i64 0] 82))
        have Ha := box ((Calm.refl wo).alloc (.cells #[.int .i64 0, .int .i64 0, .int .i64 0, .int .i64 0] 82))
        have hlk := box (hlink.out _ G' (HS.out.calm Ha.out) i hi)
        obtain ⟨e, he⟩ : ∃ e, E[i] = e := ⟨_, rfl⟩
        rw [he] at Hal2 hah hcl hlk
        clear he
        go_wp2_with fail
        refine hlk.out.mono ?_
        rintro e2 w2 ⟨rfl, hc2⟩
        have Hc2 := box hc2
        have j0 := (hc2.block _ (heap_lt Hn.out)).trans Hn.out
        have r0 := cell_of j0 0
        have r1 := cell_of j0 1
        have r2 := cell_of j0 2
        have r3 := cell_of j0 3
        have q0 := free_of j0 0
        have q1 := free_of j0 1
        have q2 := free_of j0 2
        have q3 := free_of j0 3
        have jlt := heap_lt j0
        clear hc2
        have HK := box ((((((Keeps.of_calm (F := fun b => wo.heap.size ≤ b) (Ha.out.trans Hc2.out)).setCell (p := ⟨wo.heap.size, 0, none⟩) (.inl (Nat.le_refl _)) (.int .i64 (e.h : Int))).setCell (p := ⟨wo.heap.size, 1, none⟩) (.inl (Nat.le_refl _)) (.int .i64 (e.pos : Int))).setCell (p := ⟨wo.heap.size, 2, none⟩) (.inl (Nat.le_refl _)) (.int .i64 (e.born : Int))).setCell (p := ⟨wo.heap.size, 3, none⟩) (.inl (Nat.le_refl _)) (.int .i64 (e.ahead : Int))).below (B := wo.heap.size) (Nat.le_refl _) (fun _ h => h))
        have Hj4 := box (heap_set (heap_set (heap_set (heap_set j0 0 (.int .i64 (e.h : Int))) 1 (.int .i64 (e.pos : Int))) 2 (.int .i64 (e.born : Int))) 3 (.int .i64 (e.ahead : Int)))
        clear j0
        obtain ⟨gv, hgv⟩ : ∃ gv, go s (i + 1) e = gv := ⟨_, rfl⟩
        rw [hgv] at Hal2 hcl
        clear hgv
        cases gv
        · have Hal2 := box (show stp s (i + 1) e = fin by have := Hal2.out; simpa using this)
          go_wp2_with fail
          refine (hcl.out _ (HC.out.calm _ _ _ _ _ HR.out HK.out)).mono ?_
          rintro e3 w3 ⟨rfl, G3, hR3, hS3⟩
          have HR3 := box hR3
          have HS3 := box (Step.trans (HS.out.calm HK.out) hS3)
          clear hR3 hS3
          go_wp2_with fail
          go_ret
          exact ⟨rfl, i, G3, by rw [← Hal2.out]; exact HR3.out, HS3.out⟩
        · have Hal2 := box (show alongS E stp go f e.ahead (stp s (i + 1) e) = fin by have := Hal2.out; simpa using this)
          go_wp2_with fail
          refine (hcl.out _ (HC.out.calm _ _ _ _ _ HR.out HK.out)).mono ?_
          rintro e3 w3 ⟨rfl, G3, hR3, hS3⟩
          have HR3 := box hR3
          have HS3 := box (Step.trans (HS.out.calm HK.out) hS3)
          have k0 := hS3.same Hj4.out (fun hg => by have := HL.out _ hg; omega)
          have d3 : w3.cell? ⟨wo.heap.size, 3, none⟩ = some (.int .i64 (e.ahead : Int)) := cell_of k0 3
          have dlt := heap_lt k0
          clear hR3 hS3 k0
          go_wp2_with fail
          go_roundw
          case rel => exact ⟨e.ahead, f, _, G3, by have := hah.out; omega, by have := hah.out; omega, rfl, rfl, Hal2.out, HC.out.down _ _ _ _ _ HR3.out hah.out, HS3.out⟩
          case measure => simp [intOf]; have := hah.out; omega
end
end Go.Proofs.Ytjfiglkclpddaaa.kx

/- A row of numbers of one's own, in a variable that a closure captures. -/
namespace Go.Proofs.Ytjfiglkclpddaaa
open Go.ChangeShapes Go.WideShapes Go.ChangeAt Go.RowKit
open Go.Proofs.Ytjfiglkclpddaaa.dk

theorem row_base {w : World} {e : TypeId} {size n B : Nat} {v : Value} {xs : List Value} (h : w.ownsRow 0 e size v n xs) (hb : ∀ g, v.ownBlock = some g → B ≤ g) : w.ownsRow B e size v n xs := by
  refine ⟨h.1, ?_⟩
  rcases h.2 with h2 | ⟨g, cap, cur, rfl, _, h3⟩
  · exact .inl h2
  · exact .inr ⟨g, cap, cur, rfl, hb g rfl, h3⟩
theorem row_zero {w : World} {e : TypeId} {size n B : Nat} {v : Value} {xs : List Value} (h : w.ownsRow B e size v n xs) : w.ownsRow 0 e size v n xs := by
  refine ⟨h.1, ?_⟩
  rcases h.2 with h2 | ⟨g, cap, cur, rfl, _, h3⟩
  · exact .inl h2
  · exact .inr ⟨g, cap, cur, rfl, Nat.zero_le _, h3⟩
/-- 'append(row, n)': in place, or in a new block. -/
theorem append_int2 (w : World) (base : Nat) (v : Value) (l : List Int) (x : Int) (h : w.ownsRow base 3 1 v l.length (intRow l)) (hbase : base ≤ w.heap.size) (hl : l.length ≤ 1000000) (ty : TypeId) :
    ∃ v' w', (Builtin.append_ #[32, 32] ty #[v, .slice (some ⟨w.heap.size, 0, none⟩) 1 1]).run Try.prog (w.alloc (.cells #[.int .i64 x] 3)) = .ok v' w' ∧
      w'.ownsRow base 3 1 v' (l ++ [x]).length (intRow (l ++ [x])) ∧ Keeps (fun g => v.ownBlock = some g) w w' ∧ ∀ g, v'.ownBlock = some g → v.ownBlock = some g ∨ w.heap.size ≤ g := by
  obtain ⟨i0, hi, hz0, hz1, hz2⟩ := info_parts infoInt
  have hb := heap_new w (.cells #[.int .i64 x] 3)
  obtain ⟨v', w', h1, h2, h3, h4⟩ := append_own (P := Try.prog) (w.alloc (.cells #[.int .i64 x] 3)) 32 ty 3 i0 _ 1 8 Try.underlying32 hi hz0 hz1 hz2 (by kernel_rfl) (by decide) v l.length _ (row_zero (h.alloc _)) ⟨w.heap.size, 0, none⟩ 1 1 (by decide) [.int .i64 x] rfl (fun j u hj => by
      rw [add_lit, cell_of hb]
      match j, hj with
      | 0, hj => exact hj
      | k + 1, hj => simp at hj) (fun u hu => by
      rcases List.mem_cons.1 hu with rfl | hu
      · rfl
      cases hu) (by simp only [maxLen]; omega) (by omega)
  have hg : ∀ g, v'.ownBlock = some g → v.ownBlock = some g ∨ w.heap.size ≤ g := fun g hg => by
    rcases h4 with h4 | h4
    · exact .inl (h4.symm.trans hg)
    · rw [h4] at hg
      cases hg
      exact .inr (by simp)
  refine ⟨v', w', h1, ?_, ?_, hg⟩
  · refine row_base ?_ (fun g e => ?_)
    · simpa [intRow] using h2
    · rcases hg g e with hg | hg
      · exact (h.lt g hg).1
      · omega
  · exact (((Keeps.refl (fun g => v.ownBlock = some g) w).alloc _).trans' (h3.mono (fun b _ h => h)))

/-- A variable of its own holds a row of numbers of its own. -/
structure OutIs (W : World) (blk B : Nat) (out : List Int) (G : Nat → Prop) : Prop where
  cell : ∃ v, W.heap[blk]? = some (.cells #[v] 32 (0, 0)) ∧ W.ownsRow B 3 1 v out.length (intRow out) ∧ ∀ b, G b ↔ b = blk ∨ v.ownBlock = some b
theorem OutIs.calm {W W' : World} {blk B : Nat} {out : List Int} {G : Nat → Prop} (h : OutIs W blk B out G) (hc : Calm W W') : OutIs W' blk B out G := by
  obtain ⟨v, h1, h2, h3⟩ := h.cell
  exact ⟨v, heap_calm hc h1, own_calm h2 hc, h3⟩
theorem OutIs.lt {W : World} {blk B : Nat} {out : List Int} {G : Nat → Prop} (h : OutIs W blk B out G) : ∀ b, G b → b < W.heap.size := fun b hb => by
  obtain ⟨v, h1, h2, h3⟩ := h.cell
  rcases (h3 b).1 hb with rfl | hb
  · exact heap_lt h1
  · exact (h2.lt b hb).2
theorem OutIs.made (w : World) : OutIs (w.alloc (.cells #[.slice none 0 0] 32)) w.heap.size w.heap.size [] (fun b => b = w.heap.size) :=
  ⟨.slice none 0 0, heap_new _ _, World.ownsRow_nil _ _ _ _, fun b => by simp [Value.ownBlock]⟩
theorem out_ne {W : World} {blk B : Nat} {v : Value} {out : List Int} (h1 : W.heap[blk]? = some (.cells #[v] 32 (0, 0))) (h2 : W.ownsRow B 3 1 v out.length (intRow out)) : v.ownBlock ≠ some blk := fun e => by
  obtain ⟨cur, hc⟩ := own_row h2 e
  rw [h1] at hc
  simp at hc
/-- What the run of 'out = append(out, x)' through a pointer leaves. -/
theorem out_append {W w2 : World} {blk B : Nat} {v v' : Value} {out : List Int} {x : Int} {G : Nat → Prop} (h1 : W.heap[blk]? = some (.cells #[v] 32 (0, 0))) (h2 : W.ownsRow B 3 1 v out.length (intRow out)) (h3 : ∀ b, G b ↔ b = blk ∨ v.ownBlock = some b)
    (hr : w2.ownsRow B 3 1 v' (out ++ [x]).length (intRow (out ++ [x]))) (hk : Keeps (fun g => v.ownBlock = some g) W w2) (hg : ∀ g, v'.ownBlock = some g → v.ownBlock = some g ∨ W.heap.size ≤ g) :
    w2.cell? ⟨blk, 0, none⟩ = some v ∧ w2.frozen? ⟨blk, 0, none⟩ = false ∧ blk < w2.heap.size ∧ OutIs (w2.setCell ⟨blk, 0, none⟩ v') blk B (out ++ [x]) (fun b => b = blk ∨ v'.ownBlock = some b) ∧ Step G W (fun b => b = blk ∨ v'.ownBlock = some b) (w2.setCell ⟨blk, 0, none⟩ v') := by
  have hne := out_ne h1 h2
  have hb := (hk.block blk (heap_lt h1) (fun e => hne e)).trans h1
  have hset := heap_set hb 0 v'
  have hne' : v'.ownBlock ≠ some blk := fun e => by
    rcases hg blk e with h | h
    · exact hne h
    · have := heap_lt h1; omega
  refine ⟨cell_of hb 0, free_of hb 0, heap_lt hb, ⟨v', hset, ?_, fun b => Iff.rfl⟩, ⟨?_, fun b hb => ?_⟩⟩
  · exact row_same hr (fun g e => heap_set_other (fun e2 => hne' (by rw [← e2]; exact e)) 0 v')
  · exact (hk.mono (fun b _ h => (h3 b).2 (.inr h))).setCell (p := ⟨blk, 0, none⟩) (.inl ((h3 blk).2 (.inl rfl))) v'
  · rcases hb with rfl | hb
    · exact .inl ((h3 _).2 (.inl rfl))
    · rcases hg b hb with h | h
      · exact .inl ((h3 b).2 (.inr h))
      · exact .inr h
theorem OutIs.ints {W : World} {blk B : Nat} {out : List Int} {G : Nat → Prop} (h : OutIs W blk B out G) (hl : out.length ≤ 1000000) : ∃ a n cap, W.cell? ⟨blk, 0, none⟩ = some (.slice a n cap) ∧ IntsAt W (.slice a n cap) out ∧ From B (.slice a n cap) ∧ blk < W.heap.size := by
  obtain ⟨v, h1, h2, h3⟩ := h.cell
  obtain ⟨i1, i2⟩ := own_ints h2 hl
  obtain ⟨a, cap, rfl, _⟩ := id i1
  exact ⟨a, _, cap, cell_of h1 0, i1, i2, heap_lt h1⟩
end Go.Proofs.Ytjfiglkclpddaaa

/- Layer 11: a bucket's entries. -/
namespace Go.Proofs.Ytjfiglkclpddaaa.kx
open Go.ChangeShapes Go.WideShapes Go.ChangeAt Go.RowKit
open Go.Proofs.Ytjfiglkclpddaaa.dk Go.Proofs.Ytjfiglkclpddaaa.oc Go.Proofs.Ytjfiglkclpddaaa.en Go.Proofs.Ytjfiglkclpddaaa.wh Go.Proofs.Ytjfiglkclpddaaa.nm

def chStp (out : List Int) (n : Nat) (_ : Ln) : List Int := out ++ [(n : Int)]
def chGo (_ : List Int) (_ : Nat) (_ : Ln) : Bool := true
def chR (blk B : Nat) (out : List Int) (m : Nat) (G : Nat → Prop) (W : World) : Prop := OutIs W blk B out G ∧ out.length + m ≤ 1000 ∧ B ≤ W.heap.size
theorem hmf : ∀ (fn : Fn) (first cap : Array Value) (w : World), (Instr.makeFunc fn first cap).run Try.prog w = .ok (.func fn first cap) w := fun _ _ _ _ => rfl
set_option maxRecDepth 100000 in
set_option maxHeartbeats 300000 in
theorem Chain1_any (E : List Ln) (blk B : Nat) (out : List Int) (G : Nat → Prop) (i : Nat) (e : Ln) (W : World) (h : chR blk B out (i + 1) G W) :
    Calls Try.prog 42 #[.int .i64 ((i : Int) + 1), .agg #[.int .i64 (e.h : Int), .int .i64 (e.pos : Int), .int .i64 (e.born : Int), .int .i64 (e.ahead : Int)], ptrTo blk] W fun r w' => r = .returned (.bool true) ∧ ∃ G', chR blk B (out ++ [(i : Int) + 1]) i G' w' ∧ Step G W G' w' := by
  obtain ⟨hO, hm, hB⟩ := h
  obtain ⟨v, h1, h2, h3⟩ := hO.cell
  obtain ⟨va, vn, vc, rfl⟩ : ∃ a n c, v = .slice a n c := by
    rcases h2.2 with ⟨rfl, _⟩ | ⟨g, cap, cur, rfl, _⟩
    · exact ⟨_, _, _, rfl⟩
    · exact ⟨_, _, _, rfl⟩
  have Ha := box ((Calm.refl W).alloc (.cells #[.int .i64 (e.h : Int), .int .i64 (e.pos : Int), .int .i64 (e.born : Int), .int .i64 (e.ahead : Int)] 82))
  have h1' := heap_calm Ha.out h1
  have h2' := own_calm h2 Ha.out
  obtain ⟨v', w2, happ, hr, hk, hg⟩ := append_int2 _ B _ out ((i : Int) + 1) h2' (Nat.le_trans hB Ha.out.size) (by omega) 32
  obtain ⟨ua, un, uc, rfl⟩ : ∃ a n c, v' = .slice a n c := by
    rcases hr.2 with ⟨rfl, _⟩ | ⟨g, cap, cur, rfl, _⟩
    · exact ⟨_, _, _, rfl⟩
    · exact ⟨_, _, _, rfl⟩
  obtain ⟨r1, r2, r3, r4, r5⟩ := out_append h1' h2' h3 hr hk hg
  have c0 : _ = some (Value.slice va vn vc) := cell_of h1' 0
  have clt := heap_lt h1'
  have hx0 := (Calm.refl _).alloc (.cells #[.int .i64 ((i : Int) + 1)] 3) |>.cell (p := ⟨blk, 0, none⟩) clt
  have c1 := hx0.trans c0
  simp only [World.size_alloc] at happ
  have Happ := box happ
  have R4 := box r4
  have R5 := box r5
  have hsz := box (Nat.le_trans (Nat.le_trans hB Ha.out.size) r5.keeps.size)
  clear h1 h2 h3 hO hr hk hg happ r4 r5 h1' h2' hx0
  go_enter Try.func42, Try.ntmps42
  go_wp2_with (first | (at_builtin; refine Lib.wpList_append_run _ rfl _ _ _ _ rfl _ _ rfl rfl _ _ Happ.out ?_) | fail)
  go_ret
  exact ⟨rfl, _, ⟨R4.out, by simp; omega, hsz.out⟩, Step.calm_left Ha.out R5.out⟩
theorem chClo (E : List Ln) (blk B : Nat) : Clo E (chR blk B) chStp chGo 42 [ptrTo blk] where
  lt := fun s m G W h => h.1.lt
  calm := fun s m G W W' h hc => ⟨h.1.calm hc, h.2.1, Nat.le_trans h.2.2 hc.size⟩
  down := fun s m m' G W h hm => ⟨h.1, by have := h.2.1; omega, h.2.2⟩
  enters := Go.Proofs.enters_of Try.func42 (by kernel_rfl) rfl
  call := fun s G i hi W h => Chain1_any E blk B s G i E[i] W h

section
variable {p n : Nat} {D : DiskS} {F : Nat → Prop} {E : List Ln} {H : List Nat}
/-- A bucket's entries, the last one first. -/
def chainL (E : List Ln) (H : List Nat) (b : Nat) : List Int := alongS E chStp chGo (H.getD b 0) (H.getD b 0) []
set_option maxRecDepth 100000 in
set_option maxHeartbeats 2000000 in
theorem Chain_any (x m b : Nat) (w : World) (h : DiskOk w p D F n) (hk : KxD D E H) (hfall : Falls E) (hx : IdxAt w x p m) (hb : b < 8) :
    Calls Try.prog 19 #[ptrTo x, .int .i64 (b : Int)] w fun e w' => ∃ v, e = .returned v ∧ IntsAt w' v (chainL E H b) ∧ From w.heap.size v ∧ Calm w w' := by
  have hbl : b < H.length := by rw [hk.len]; exact hb
  have htop : H.getD b 0 ≤ 1000 := by rw [List.getD_eq_getElem?_getD, List.getElem?_eq_getElem hbl]; exact Nat.le_trans (hk.heads _ (List.getElem_mem _)) hk.few
  have Ha := box ((Calm.refl w).alloc (.cells #[.slice none 0 0] 32))
  have hal := box (along1_any (chR w.heap.size w.heap.size) chStp chGo 42 (ptrTo w.heap.size) (chClo E _ _) x m b _ [] _ (h.calm Ha.out) hk hfall (hx.calm Ha.out) hb ⟨OutIs.made w, by simpa using htop, Ha.out.size⟩
    (fun b hf e => by have := h.foot_lt b hf; omega) (fun e => by have := heap_lt hx; omega))
  have hf := hmf
  have htop' := box htop
  clear h hk hfall hx hbl htop
  go_enter Try.func19, Try.ntmps19
  go_wp2_with fail
  refine hal.out.mono ?_
  rintro e w1 ⟨rfl, m', G', hR, hS⟩
  obtain ⟨a, l, cap, hc, hI, hF, hlt⟩ := hR.1.ints (by have := hR.2.1; omega)
  have HI := box hI
  have HF := box hF
  have HS := box (Ha.out.size)
  have HC := box (Below.trans Ha.out (hS.below (B := w.heap.size) Ha.out.size (fun b e => Nat.le_of_eq e.symm)).1)
  clear hI hF hR hS
  go_wp2_with fail
  go_ret
  exact ⟨_, rfl, HI.out, HF.out, HC.out⟩
end
end Go.Proofs.Ytjfiglkclpddaaa.kx

/- Layer 11: the last records of a key. -/
namespace Go.Proofs.Ytjfiglkclpddaaa.kx
open Go.ChangeShapes Go.WideShapes Go.ChangeAt Go.RowKit
open Go.Proofs.Ytjfiglkclpddaaa.dk Go.Proofs.Ytjfiglkclpddaaa.oc Go.Proofs.Ytjfiglkclpddaaa.en Go.Proofs.Ytjfiglkclpddaaa.wh Go.Proofs.Ytjfiglkclpddaaa.nm

def fdStp (h : Nat) (least most : Int) (out : List Int) (_ : Nat) (e : Ln) : List Int := if e.h = h ∧ least ≤ e.pos ∧ (out.length : Int) < most then out ++ [(e.pos : Int)] else out
def fdGo (h : Nat) (least most : Int) (out : List Int) (n : Nat) (e : Ln) : Bool := decide (((fdStp h least most out n e).length : Int) < most) && decide (least ≤ (e.pos : Int))
structure FdR (hb lb mb blk B h : Nat) (least most : Int) (out : List Int) (m : Nat) (G : Nat → Prop) (W : World) : Prop where
  o : OutIs W blk B out G
  few : out.length + m ≤ 1000
  size : B ≤ W.heap.size
  hc : W.heap[hb]? = some (.cells #[.int .i64 (h : Int)] 3 (0, 0))
  lc : W.heap[lb]? = some (.cells #[.int .i64 least] 3 (0, 0))
  mc : W.heap[mb]? = some (.cells #[.int .i64 most] 3 (0, 0))
  low : hb < B ∧ lb < B ∧ mb < B ∧ B ≤ blk
theorem FdR.far {hb lb mb blk B h : Nat} {least most : Int} {out : List Int} {m : Nat} {G : Nat → Prop} {W : World} (r : FdR hb lb mb blk B h least most out m G W) : ∀ b, G b → B ≤ b := fun b hg => by
  obtain ⟨v, h1, h2, h3⟩ := r.o.cell
  rcases (h3 b).1 hg with rfl | hg
  · exact r.low.2.2.2
  · exact (h2.lt b hg).1
theorem row_shape {w : World} {B : Nat} {v : Value} {out : List Int} (h : w.ownsRow B 3 1 v out.length (intRow out)) : ∃ a c, v = .slice a out.length c := by
  rcases h.2 with ⟨rfl, h0⟩ | ⟨g, cap, cur, rfl, _⟩
  · exact ⟨none, 0, by rw [h0]⟩
  · exact ⟨_, _, rfl⟩
set_option maxRecDepth 100000 in
set_option maxHeartbeats 2000000 in
theorem Find1_any (hb lb mb blk B h : Nat) (least most : Int) (out : List Int) (G : Nat → Prop) (i : Nat) (e : Ln) (W : World) (r : FdR hb lb mb blk B h least most out (i + 1) G W) :
    Calls Try.prog 38 #[.int .i64 ((i : Int) + 1), .agg #[.int .i64 (e.h : Int), .int .i64 (e.pos : Int), .int .i64 (e.born : Int), .int .i64 (e.ahead : Int)], ptrTo hb, ptrTo lb, ptrTo blk, ptrTo mb] W
      fun q w' => q = .returned (.bool (fdGo h least most out (i + 1) e)) ∧ ∃ G', FdR hb lb mb blk B h least most (fdStp h least most out (i + 1) e) i G' w' ∧ Step G W G' w' := by
  obtain ⟨v, h1, h2, h3⟩ := r.o.cell
  obtain ⟨va, vc, rfl⟩ := row_shape h2
  have Hfar := box r.far
  have Hlow := box r.low
  have hm := r.few
  have hB := r.size
  have Ha := box ((Calm.refl W).alloc (.cells #[.int .i64 (e.h : Int), .int .i64 (e.pos : Int), .int .i64 (e.born : Int), .int .i64 (e.ahead : Int)] 82))
  have hnew := heap_new W (.cells #[.int .i64 (e.h : Int), .int .i64 (e.pos : Int), .int .i64 (e.born : Int), .int .i64 (e.ahead : Int)] 82)
  have h1' := heap_calm Ha.out h1
  have h2' := own_calm h2 Ha.out
  have hc' := heap_calm Ha.out r.hc
  have lc' := heap_calm Ha.out r.lc
  have mc' := heap_calm Ha.out r.mc
  have c0 : _ = some (Value.slice va out.length vc) := cell_of h1' 0
  have c1 : _ = some (Value.int .i64 (h : Int)) := cell_of hc' 0
  have c2 : _ = some (Value.int .i64 least) := cell_of lc' 0
  have c3 : _ = some (Value.int .i64 most) := cell_of mc' 0
  have l0 := heap_lt h1'
  have l1 := heap_lt hc'
  have l2 := heap_lt lc'
  have l3 := heap_lt mc'
  have Hr := box r
  by_cases hcond : e.h = h ∧ least ≤ (e.pos : Int) ∧ (out.length : Int) < most
  · have hst : fdStp h least most out (i + 1) e = out ++ [(e.pos : Int)] := by unfold fdStp; rw [if_pos hcond]
    have hgo : fdGo h least most out (i + 1) e = decide ((out.length : Int) + 1 < most) := by
      unfold fdGo; rw [hst, decide_eq_true hcond.2.1, Bool.and_true]; congr 1; simp
    rw [hst, hgo]
    obtain ⟨rfl, k2, k3⟩ := hcond
    obtain ⟨v', w2, happ, hr, hk, hg⟩ := append_int2 _ B _ out (e.pos : Int) h2' (Nat.le_trans hB Ha.out.size) (by omega) 32
    obtain ⟨ua, uc, rfl⟩ := row_shape hr
    obtain ⟨r1, r2, r3, r4, r5⟩ := out_append h1' h2' h3 hr hk hg
    simp only [World.size_alloc] at happ
    simp only [List.length_append, List.length_singleton] at happ r4 r5
    have hnG : ∀ b, b < B → ¬ G b := fun b hb hg => by have := Hfar.out b hg; omega
    have j1 := r5.same hc' (hnG _ Hlow.out.1)
    have j2 := r5.same lc' (hnG _ Hlow.out.2.1)
    have j3 := r5.same mc' (hnG _ Hlow.out.2.2.1)
    have j4 := r5.same hnew (fun hg => by have := Hr.out.o.lt _ hg; omega)
    have d1 : _ = some (Value.int .i64 (e.h : Int)) := cell_of j1 0
    have d2 : _ = some (Value.int .i64 least) := cell_of j2 0
    have d3 : _ = some (Value.int .i64 most) := cell_of j3 0
    have d4 : _ = some (Value.int .i64 (e.pos : Int)) := cell_of j4 1
    have d0 : (w2.setCell ⟨blk, 0, none⟩ (.slice ua (out.length + 1) uc)).cell? ⟨blk, 0, none⟩ = some (Value.slice ua (out.length + 1) uc) := by
      obtain ⟨v9, g1, g2, g3⟩ := r4.cell
      exact cell_of (heap_set ((hk.block blk (heap_lt h1') (fun e => out_ne h1' h2' e)).trans h1') 0 (Value.slice ua (out.length + 1) uc)) 0
    have m0 := heap_lt j1
    have m2 := heap_lt j2
    have m3 := heap_lt j3
    have m4 := heap_lt j4
    have m5 := Nat.lt_of_lt_of_le l0 r5.keeps.size
    have Happ := box happ
    have hres := box (show FdR hb lb mb blk B e.h least most (out ++ [(e.pos : Int)]) i _ (w2.setCell ⟨blk, 0, none⟩ (.slice ua (out.length + 1) uc)) from ⟨r4, by simp; omega, Nat.le_trans (Nat.le_trans hB Ha.out.size) r5.keeps.size, j1, j2, j3, Hlow.out⟩)
    have R5 := box r5
    clear h1 h2 h3 hr hk hg happ r4 r5 h1' h2' j1 j2 j3 j4 hc' lc' mc' hnG r Hr hnew
    by_cases k4 : (out.length : Int) + 1 < most
    all_goals
      go_enter Try.func38, Try.ntmps38
      go_wp2_with (first | (at_builtin; refine Lib.wpList_append_run _ rfl _ _ _ _ rfl _ _ rfl rfl _ _ Happ.out ?_) | fail)
      go_ret
      exact ⟨ret_bool (by simp; omega), _, hres.out, Step.calm_left Ha.out R5.out⟩
  · have hst : fdStp h least most out (i + 1) e = out := by unfold fdStp; rw [if_neg hcond]
    have hgo : fdGo h least most out (i + 1) e = (decide ((out.length : Int) < most) && decide (least ≤ (e.pos : Int))) := by unfold fdGo; rw [hst]
    rw [hst, hgo]
    have hres := box (show FdR hb lb mb blk B h least most out i G _ from ⟨Hr.out.o.calm Ha.out, by omega, Nat.le_trans hB Ha.out.size, hc', lc', mc', Hlow.out⟩)
    clear h1 h2 h3 h1' h2' hc' lc' mc' r Hr hnew
    have hcond := box hcond
    by_cases k1 : e.h = h
    · subst k1
      by_cases k2 : least ≤ (e.pos : Int)
      · have k3 : ¬ (out.length : Int) < most := fun k3 => hcond.out ⟨rfl, k2, k3⟩
        go_enter Try.func38, Try.ntmps38
        go_wp2_with fail
        go_ret
        exact ⟨ret_bool (by simp; omega), _, hres.out, Step.of_calm Ha.out⟩
      · go_enter Try.func38, Try.ntmps38
        go_wp2_with fail
        all_goals
          go_ret
          exact ⟨ret_bool (by simp; omega), _, hres.out, Step.of_calm Ha.out⟩
    · have k1' : ((e.h : Int) == (h : Int)) = false := beq_eq_false_iff_ne.2 (by omega)
      go_enter Try.func38, Try.ntmps38
      go_wp2_with fail
      all_goals
        go_ret
        exact ⟨ret_bool (by simp; omega), _, hres.out, Step.of_calm Ha.out⟩
theorem fdClo (E : List Ln) (hb lb mb blk B h : Nat) (least most : Int) : Clo E (FdR hb lb mb blk B h least most) (fdStp h least most) (fdGo h least most) 38 [ptrTo hb, ptrTo lb, ptrTo blk, ptrTo mb] where
  lt := fun s m G W r => r.o.lt
  calm := fun s m G W W' r hc => ⟨r.o.calm hc, r.few, Nat.le_trans r.size hc.size, heap_calm hc r.hc, heap_calm hc r.lc, heap_calm hc r.mc, r.low⟩
  down := fun s m m' G W r hm => ⟨r.o, by have := r.few; omega, r.size, r.hc, r.lc, r.mc, r.low⟩
  enters := Go.Proofs.enters_of Try.func38 (by kernel_rfl) rfl
  call := fun s G i hi W r => Find1_any hb lb mb blk B h least most s G i E[i] W r
end Go.Proofs.Ytjfiglkclpddaaa.kx

/- Layer 11: Find. -/
namespace Go.Proofs.Ytjfiglkclpddaaa.kx
open Go.ChangeShapes Go.WideShapes Go.ChangeAt Go.RowKit
open Go.Proofs.Ytjfiglkclpddaaa.dk Go.Proofs.Ytjfiglkclpddaaa.oc Go.Proofs.Ytjfiglkclpddaaa.en Go.Proofs.Ytjfiglkclpddaaa.wh Go.Proofs.Ytjfiglkclpddaaa.nm

section
variable {p n : Nat} {D : DiskS} {F : Nat → Prop} {E : List Ln} {H : List Nat}
/-- The last records of a key's number. -/
def findL (E : List Ln) (H : List Nat) (h : Nat) (least most : Int) : List Int := alongS E (fdStp h least most) (fdGo h least most) (H.getD (h % 8) 0) (H.getD (h % 8) 0) []
set_option maxRecDepth 100000 in
set_option maxHeartbeats 2000000 in
theorem Find_any (x m : Nat) (t k : ByteArray) (least most : Int) (w : World) (h : DiskOk w p D F n) (hk : KxD D E H) (hfall : Falls E) (hx : IdxAt w x p m) (hts : t.size ≤ 255) (hks : k.size ≤ 255) :
    Calls Try.prog 13 #[ptrTo x, .string t, .string k, .int .i64 least, .int .i64 most] w fun e w' => ∃ v, e = .returned (.tuple #[v, .int .i64 0]) ∧ IntsAt w' v (findL E H (numK t k) least most) ∧ From w.heap.size v ∧ Calm w w' := by
  have hN := box (fun W => number_any t k W hts hks)
  have htop : ∀ b, b < 8 → H.getD b 0 ≤ 1000 := fun b hb => by
    have hbl : b < H.length := by rw [hk.len]; exact hb
    rw [List.getD_eq_getElem?_getD, List.getElem?_eq_getElem hbl]; exact Nat.le_trans (hk.heads _ (List.getElem_mem _)) hk.few
  obtain ⟨v, hv⟩ : ∃ v, numK t k = v := ⟨_, rfl⟩
  rw [hv] at hN
  rw [hv]
  have hm : Int.tmod (v : Int) 8 = ((v % 8 : Nat) : Int) := by rw [Int.tmod_eq_emod_of_nonneg (by omega)]; omega
  have Htop := box (htop (v % 8) (Nat.mod_lt _ (by decide)))
  have hf := hmf
  have Hh := box h
  have Hk := box hk
  have Hx := box hx
  have Hfall := box hfall
  have HB := box (((Calm.refl w).alloc (.cells #[.int .i64 least] 3)).alloc (.cells #[.int .i64 most] 3))
  have Hl := box (heap_old _ (.cells #[.int .i64 most] 3) (heap_new w (.cells #[.int .i64 least] 3)))
  have Hm := box (heap_new (w.alloc (.cells #[.int .i64 least] 3)) (.cells #[.int .i64 most] 3))
  clear h hk hx hfall hv htop hts hks
  go_enter Try.func13, Try.ntmps13
  go_wp2_with fail
  refine (hN.out _).mono ?_
  rintro e w1 ⟨rfl, hc1⟩
  have C1 := box (HB.out.trans hc1)
  have L1 := box (heap_calm hc1 Hl.out)
  have M1 := box (heap_calm hc1 Hm.out)
  have C2 := box (((Calm.refl w1).alloc (.cells #[.int .i64 (v : Int)] 3)).alloc (.cells #[.slice none 0 0] 32))
  have hb2 := heap_calm C2.out L1.out
  have hm2 := heap_calm C2.out M1.out
  have hh2 := heap_old _ (.cells #[.slice none 0 0] 32) (heap_new w1 (.cells #[.int .i64 (v : Int)] 3))
  have hO := OutIs.made (w1.alloc (.cells #[.int .i64 (v : Int)] 3))
  simp only [World.size_alloc] at hO hm2
  have hs1 := hc1.size
  simp only [World.size_alloc] at hs1
  have hal := box (along4_any (FdR w1.heap.size w.heap.size (w.heap.size + 1) (w1.heap.size + 1) (w1.heap.size + 1) v least most) (fdStp v least most) (fdGo v least most) 38 (ptrTo w1.heap.size) (ptrTo w.heap.size) (ptrTo (w1.heap.size + 1)) (ptrTo (w.heap.size + 1))
    (fdClo E _ _ _ _ _ v least most) x m (v % 8) _ [] _ (Hh.out.calm (C1.out.trans C2.out)) Hk.out Hfall.out (Hx.out.calm (C1.out.trans C2.out)) (Nat.mod_lt _ (by decide))
    ⟨hO, by simpa using Htop.out, by simp, hh2, hb2, hm2, by omega, by omega, by omega, Nat.le_refl _⟩
    (fun b hf e => by have := Hh.out.foot_lt b hf; omega) (fun e => by have := heap_lt Hx.out; omega))
  rw [show ((v % 8 : Nat) : Int) = (v : Int) % 8 by omega] at hal
  clear hO hb2 hm2 hh2 hc1
  go_wp2_with fail
  refine hal.out.mono ?_
  rintro e w2 ⟨rfl, m', G', hR, hS⟩
  obtain ⟨a, l, cap, hc, hI, hF, hlt⟩ := hR.o.ints (by have := hR.few; omega)
  have HI := box hI
  have HF := box (show From w.heap.size (.slice a l cap) from fun b hb => by have := hF b hb; omega)
  have HC := box (Below.trans (C1.out.trans C2.out) (hS.below (B := w.heap.size) (C1.out.trans C2.out).size (fun b e => by omega)).1)
  clear hI hF hR hS
  go_wp2_with fail
  go_ret2
  exact ⟨_, rfl, HI.out, HF.out, HC.out⟩
end
end Go.Proofs.Ytjfiglkclpddaaa.kx

/- Layer 11, plain laws: chains are the entries of a bucket, the last one first; a step of adding. -/
namespace Go.Proofs.Ytjfiglkclpddaaa.kx
open Go.ChangeShapes Go.WideShapes Go.ChangeAt Go.RowKit
open Go.Proofs.Ytjfiglkclpddaaa.dk Go.Proofs.Ytjfiglkclpddaaa.oc Go.Proofs.Ytjfiglkclpddaaa.en Go.Proofs.Ytjfiglkclpddaaa.wh Go.Proofs.Ytjfiglkclpddaaa.nm

/-- The last one of a bucket's entries among the first n. -/
def lastIn (E : List Ln) (b : Nat) : Nat → Nat
  | 0 => 0
  | i + 1 => match E[i]? with
    | none => lastIn E b i
    | some e => if e.h % 8 = b then i + 1 else lastIn E b i
theorem lastIn_le (E : List Ln) (b : Nat) : ∀ n, lastIn E b n ≤ n
  | 0 => Nat.le_refl _
  | i + 1 => by
    have ih := lastIn_le E b i
    unfold lastIn
    split
    · omega
    · split <;> omega
theorem lastIn_app (E L : List Ln) (b : Nat) : ∀ n, n ≤ E.length → lastIn (E ++ L) b n = lastIn E b n
  | 0, _ => rfl
  | i + 1, h => by
    have ih := lastIn_app E L b i (by omega)
    unfold lastIn
    rw [List.getElem?_append_left (by omega), ih]
structure Linked (E : List Ln) (H : List Nat) : Prop where
  heads : ∀ b, b < 8 → H.getD b 0 = lastIn E b E.length
  ahead : ∀ i (hi : i < E.length), E[i].ahead = lastIn E (E[i].h % 8) i
theorem Linked.falls {E : List Ln} {H : List Nat} (h : Linked E H) : Falls E := fun i hi => by rw [h.ahead i hi]; exact lastIn_le _ _ _
theorem linked_new : Linked [] (List.replicate 8 0) := ⟨fun b hb => by
    rw [List.getD_eq_getElem?_getD, List.getElem?_replicate, if_pos hb]; rfl, fun i hi => absurd hi (Nat.not_lt_zero _)⟩
theorem Linked.add {E : List Ln} {H : List Nat} (h : Linked E H) (hl : H.length = 8) (v pos born : Nat) : Linked (E ++ [⟨v, pos, born, H.getD (v % 8) 0⟩]) (H.set (v % 8) (E.length + 1)) := by
  have h8 : v % 8 < 8 := Nat.mod_lt _ (by decide)
  refine ⟨fun b hb => ?_, fun i hi => ?_⟩
  · rw [List.length_append, List.length_singleton]
    unfold lastIn
    rw [List.getElem?_append_right (Nat.le_refl _), Nat.sub_self]
    simp only [List.getElem?_cons_zero]
    by_cases hv : v % 8 = b
    · rw [if_pos hv, ← hv, List.getD_eq_getElem?_getD, List.getElem?_set_self (by omega)]; rfl
    · rw [if_neg hv, List.getD_eq_getElem?_getD, List.getElem?_set_ne hv, ← List.getD_eq_getElem?_getD, h.heads b hb, lastIn_app _ _ _ _ (Nat.le_refl _)]
  · rw [List.length_append, List.length_singleton] at hi
    by_cases hlt : i < E.length
    · rw [List.getElem_append_left hlt, h.ahead i hlt, lastIn_app _ _ _ _ (by omega)]
    · obtain rfl : i = E.length := by omega
      rw [List.getElem_append_right (Nat.le_refl _)]
      simp only [Nat.sub_self, List.getElem_cons_zero]
      rw [h.heads _ h8, lastIn_app _ _ _ _ (Nat.le_refl _)]
/-- From entry n backwards, a bucket's alone. -/
def backS {α : Type} (E : List Ln) (b : Nat) (stp : α → Nat → Ln → α) (go : α → Nat → Ln → Bool) : Nat → α → α
  | 0, s => s
  | i + 1, s => match E[i]? with
    | none => backS E b stp go i s
    | some e => if e.h % 8 = b then (if go s (i + 1) e then backS E b stp go i (stp s (i + 1) e) else stp s (i + 1) e) else backS E b stp go i s
theorem along_back {α : Type} {E : List Ln} {H : List Nat} (h : Linked E H) (b : Nat) (stp : α → Nat → Ln → α) (go : α → Nat → Ln → Bool) :
    ∀ n f s, n ≤ E.length → lastIn E b n ≤ f → alongS E stp go f (lastIn E b n) s = backS E b stp go n s
  | 0, f, s, _, _ => by cases f <;> rfl
  | i + 1, f, s, hn, hf => by
    have hi : i < E.length := by omega
    have he : E[i]? = some E[i] := List.getElem?_eq_getElem hi
    unfold lastIn at hf ⊢
    unfold backS
    rw [he] at hf ⊢
    simp only at hf ⊢
    by_cases hb : E[i].h % 8 = b
    · rw [if_pos hb] at hf ⊢
      rw [if_pos hb]
      obtain ⟨f, rfl⟩ : ∃ g, f = g + 1 := ⟨f - 1, by omega⟩
      rw [alongS, he]
      simp only
      have ha := h.ahead i hi
      rw [hb] at ha
      rw [ha]
      split
      · exact along_back h b stp go i f _ (by omega) (Nat.le_trans (lastIn_le _ _ _) (by omega))
      · rfl
    · rw [if_neg hb] at hf ⊢
      rw [if_neg hb]
      exact along_back h b stp go i f s (by omega) hf
theorem find_back {E : List Ln} {H : List Nat} (h : Linked E H) (v : Nat) (least most : Int) : findL E H v least most = backS E (v % 8) (fdStp v least most) (fdGo v least most) E.length [] := by
  unfold findL
  rw [h.heads _ (Nat.mod_lt _ (by decide))]
  exact along_back h _ _ _ _ _ _ (Nat.le_refl _) (Nat.le_refl _)
theorem chain_back {E : List Ln} {H : List Nat} (h : Linked E H) (b : Nat) (hb : b < 8) : chainL E H b = backS E b chStp chGo E.length [] := by
  unfold chainL
  rw [h.heads _ hb]
  exact along_back h _ _ _ _ _ _ (Nat.le_refl _) (Nat.le_refl _)

/-- A key that is added. -/
structure AddS where
  topic : ByteArray
  key : ByteArray
  pos : Int
  born : Int
def badNum (a : AddS) : Bool := decide (a.pos < 0) || decide (a.pos > 1099511627776) || decide (a.born < 0) || decide (a.born > 1099511627776)
def addCode (a : AddS) : Int := if (topicB a.topic && nm.keyB a.key) = false then 11 else if badNum a = true then 1 else 0
def addS (s : List Ln × List Nat) (a : AddS) : List Ln × List Nat :=
  if addCode a = 0 then (s.1 ++ [⟨numK a.topic a.key, a.pos.toNat, a.born.toNat, s.2.getD (numK a.topic a.key % 8) 0⟩], s.2.set (numK a.topic a.key % 8) (s.1.length + 1)) else s
/-- An index lies at x, over the disk at p; at most k keys were asked to be added since it was made. -/
def KxS (x p k : Nat) (W wr : World) (s : List Ln × List Nat) : Prop :=
  ∃ D F, DiskOk wr p D F (1 + 2 * k) ∧ KxD D s.1 s.2 ∧ Linked s.1 s.2 ∧ 10000 ≤ D.cap ∧ IdxAt wr x p s.1.length ∧ ¬ F x ∧ Owns W wr (fun b => F b ∨ b = x) ∧ s.1.length ≤ k
theorem KxS.calm {x p k : Nat} {W w w' : World} {s : List Ln × List Nat} (h : KxS x p k W w s) (hc : Calm w w') : KxS x p k W w' s := by
  obtain ⟨D, F, h1, h2, h3, h4, h5, h6, h7, h8⟩ := h
  exact ⟨D, F, h1.calm hc, h2, h3, h4, h5.calm hc, h6, h7.calm' hc, h8⟩
theorem KxS.owns {x p k : Nat} {W w : World} {s : List Ln × List Nat} (h : KxS x p k W w s) : Calm W w := by
  obtain ⟨D, F, h1, h2, h3, h4, h5, h6, h7, h8⟩ := h
  exact h7.calm
theorem KxS.mono {x p k k' : Nat} {W w : World} {s : List Ln × List Nat} (h : KxS x p k W w s) (hk : k ≤ k') : KxS x p k' W w s := by
  obtain ⟨D, F, h1, h2, h3, h4, h5, h6, h7, h8⟩ := h
  exact ⟨D, F, h1.mono (by omega), h2, h3, h4, h5, h6, h7, by omega⟩
theorem idx_apart {w : World} {x p m n : Nat} {D : DiskS} {F : Nat → Prop} (h : DiskOk w p D F n) (hx : IdxAt w x p m) : ¬ F x := fun hf => by
  obtain ⟨mb, wv, h1, rfl⟩ := h.lies
  unfold IdxAt at hx
  rcases hf with rfl | rfl | hf | hf
  · rw [h1.obj] at hx; simp at hx
  · obtain ⟨es, c, hb, _⟩ := h1.map; rw [hb] at hx; cases hx
  · obtain ⟨cur, hc⟩ := own_row h1.waits hf; rw [hc] at hx; simp at hx
  · obtain ⟨f, hf', rfl⟩ := List.mem_map.1 hf
    rw [h1.files f hf'] at hx; simp at hx
theorem Add_step (x p k : Nat) (W w : World) (s : List Ln × List Nat) (a : AddS) (h : KxS x p k W w s) (hk : k < 400) (ht : a.topic.size ≤ 255) (hks : a.key.size ≤ 255) :
    Calls Try.prog 12 #[ptrTo x, .string a.topic, .string a.key, .int .i64 a.pos, .int .i64 a.born] w fun e w' => e = .returned (.int .i64 (addCode a)) ∧ KxS x p (k + 1) W w' (addS s a) := by
  cases hn : topicB a.topic && nm.keyB a.key
  · have hc : addCode a = 11 := by unfold addCode; rw [hn]; rfl
    have hs : addS s a = s := by unfold addS; rw [hc]; rfl
    rw [hc, hs]
    exact (Add_name x a.topic a.key a.pos a.born w hn hks).mono fun e w' ⟨he, hcalm⟩ => ⟨he, (h.calm hcalm).mono (Nat.le_succ _)⟩
  · have hn' := hn
    rw [Bool.and_eq_true] at hn'
    cases hb : badNum a
    · have hc : addCode a = 0 := by unfold addCode; rw [hn, hb]; rfl
      obtain ⟨D, F, h1, h2, h3, h4, h5, h6, h7, h8⟩ := h
      unfold badNum at hb
      simp only [Bool.or_eq_false_iff, decide_eq_false_iff_not] at hb
      obtain ⟨⟨⟨b1, b2⟩, b3⟩, b4⟩ := hb
      have e1 : a.pos = ((a.pos.toNat : Nat) : Int) := by omega
      have e2 : a.born = ((a.born.toNat : Nat) : Int) := by omega
      have hadd := Add_any x a.topic a.key a.pos.toNat a.born.toNat w h1 (by omega) h2 (by omega) (by omega) h5 h6 hn'.1 hn'.2 ht hks (by omega) (by omega)
      rw [← e1, ← e2] at hadd
      rw [hc]
      refine hadd.mono fun e w' hd => ?_
      obtain ⟨he, D', F', g1, g2, g3, g4, g5⟩ := hd
      have hs : addS s a = (s.1 ++ [⟨numK a.topic a.key, a.pos.toNat, a.born.toNat, s.2.getD (numK a.topic a.key % 8) 0⟩], s.2.set (numK a.topic a.key % 8) (s.1.length + 1)) := by unfold addS; rw [if_pos hc]
      rw [hs]
      refine ⟨he, D', F', g1.mono (by omega), g2, h3.add h2.len _ _ _, by omega, ?_, idx_apart g1 g4, h7.step g5, ?_⟩
      · simp only [List.length_append, List.length_singleton]; exact g4
      · simp only [List.length_append, List.length_singleton]; omega
    · have hc : addCode a = 1 := by unfold addCode; rw [hn, hb]; rfl
      have hs : addS s a = s := by unfold addS; rw [hc]; rfl
      rw [hc, hs]
      exact (Add_arg x a.topic a.key a.pos a.born w hn'.1 hn'.2 hks hb).mono fun e w' ⟨he, hcalm⟩ => ⟨he, (h.calm hcalm).mono (Nat.le_succ _)⟩
theorem New_step (W w : World) (c : Int) (hc : 10000 ≤ (new c).cap) (p : Nat) (F : Nat → Prop) (h : DiskOk w p (new c) F 0) (hO : Owns W w F) :
    Calls Try.prog 10 #[ptrTo p] w fun e w' => ∃ x, e = .returned (.tuple #[ptrTo x, .int .i64 0]) ∧ KxS x p 0 W w' ([], List.replicate 8 0) := by
  refine (New_any p c F w h (by omega)).mono fun e w' hd => ?_
  obtain ⟨x, D', F', he, g1, g2, g3, g4, g5, g6, g7⟩ := hd
  have o := hO.step g7
  refine ⟨x, he, D', F', g1, g2, linked_new, by omega, g4, g6, ⟨o.calm, fun b hb => ?_⟩, Nat.le_refl _⟩
  rcases hb with hb | rfl
  · exact o.foot b hb
  · exact Nat.le_trans hO.calm.size g5
theorem KxS.find {x p k : Nat} {W w : World} {s : List Ln × List Nat} (h : KxS x p k W w s) (t o : ByteArray) (least most : Int) (ht : t.size ≤ 255) (ho : o.size ≤ 255) :
    Calls Try.prog 13 #[ptrTo x, .string t, .string o, .int .i64 least, .int .i64 most] w fun e w' => ∃ v, e = .returned (.tuple #[v, .int .i64 0]) ∧ IntsAt w' v (backS s.1 (numK t o % 8) (fdStp (numK t o) least most) (fdGo (numK t o) least most) s.1.length []) ∧ From w.heap.size v ∧ Calm w w' := by
  obtain ⟨D, F, h1, h2, h3, h4, h5, h6, h7, h8⟩ := h
  have := Find_any x s.1.length t o least most w h1 h2 h3.falls h5 ht ho
  rw [find_back h3] at this
  exact this
theorem KxS.chain {x p k : Nat} {W w : World} {s : List Ln × List Nat} (h : KxS x p k W w s) (b : Nat) (hb : b < 8) :
    Calls Try.prog 19 #[ptrTo x, .int .i64 (b : Int)] w fun e w' => ∃ v, e = .returned v ∧ IntsAt w' v (backS s.1 b chStp chGo s.1.length []) ∧ From w.heap.size v ∧ Calm w w' := by
  obtain ⟨D, F, h1, h2, h3, h4, h5, h6, h7, h8⟩ := h
  have := Chain_any x s.1.length b w h1 h2 h3.falls h5 hb
  rw [chain_back h3 b hb] at this
  exact this
theorem KxS.len {x p k : Nat} {W w : World} {s : List Ln × List Nat} (h : KxS x p k W w s) : Calls Try.prog 18 #[ptrTo x] w fun e w' => e = .returned (.int .i64 (s.1.length : Int)) ∧ w = w' := by
  obtain ⟨D, F, h1, h2, h3, h4, h5, h6, h7, h8⟩ := h
  exact Len_any x p _ w h5
end Go.Proofs.Ytjfiglkclpddaaa.kx
