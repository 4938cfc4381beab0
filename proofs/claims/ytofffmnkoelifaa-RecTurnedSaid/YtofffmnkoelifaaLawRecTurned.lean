/- RecTurned: a record in whose bytes one is turned isn't that record any more; each record's bytes tell how many they are. No condition. -/
import Derived.Test.YtofffmnkoelifaaRows
import Derived.WalkKit
import Derived.ProofKit
import Derived.OpenShut
import Derived.Handy
import Derived.Deep.LoopGhost
import Derived.Lib.Hide
import Derived.Lib.Strings
import Derived.SizedLaws
import Derived.Deep.Slices
import Derived.Shelf.SlIter.Nil
import Derived.Ground.GgzProg
import Derived.Shelf.SortM.Plain
import Derived.Shelf.SortM.SortNone
import Derived.Ground.SlgmProg
import Derived.Test.YtofffmnkoelifaaProg
import Derived.Shelf.Strings.Builder1
import Derived.Shelf.Strings.Builder2
import Derived.Shelf.Small.Bits
import Derived.Shelf.Small.Wraps
import Derived.Shelf.Strings.BuilderF
import Derived.Shelf.Strings.BuilderK
import Derived.Shelf.Strings.Builder2Cap
import Derived.Shelf.Strconv.Itoa0
import Derived.Shelf.Sort.Plain
import Derived.Shelf.GgClosure.StringsIndexFunc
import Derived.Ground.GgwProg
import Derived.Shelf.GgClosure.StringsIndexFuncTop
import Derived.Shelf.GgClosure.StringsRunes
import Derived.Shelf.Strings.Prefix
import Derived.Shelf.Bits.Mul64
import Derived.Shelf.Strings.Repeat
import Derived.Shelf.Strings.BuilderCap
import Derived.Shelf.Slices.Equal
import Derived.Ground.Names2Prog
import Derived.Shelf.Slices.Clone
import Derived.Shelf.Slices.CompactS
import Derived.Shelf.Slices.SearchI
import Derived.Shelf.Slices.Cells
import Derived.Shelf.Slices.In.SortNone
import Derived.Shelf.Slices.Empties2
import Derived.Ground.SlgnProg
import Derived.Shelf.SlicesE.Equal
import Derived.Shelf.SlicesE.Compact
import Derived.Ground.SlgfProg
import Derived.Shelf.SlicesE.IndexFunc
import Derived.Shelf.SlicesE.DeleteFunc
import Derived.RangeFuncBox
import Derived.RangeFuncLeaves
import Derived.Shelf.Abstract
import Derived.OwnWalkIn
import Derived.TacticsInMore
import Derived.LoopNIn
import Derived.LoopIn
import Derived.Maps.AppendAt
import Derived.Lib.SlicesCompact
import Derived.Deep.QuietTactic
import Derived.BigQuiet
import Derived.Laws.ResultCell
import Derived.Laws.Rows
import Derived.Lib.ConvBytes
import Derived.Lib.AppendZeros
import Derived.Lib.AppendZerosOnto
import Derived.Lib.LazyBuf
import Derived.Laws.MakeOwn
import Derived.Lib.Builder
import Derived.Lib.AppendStr
import Derived.Deep.RegionHeld3
import Derived.Laws.BitsLemmas
import Derived.Laws.StructEq
import Derived.Laws.Cover3
import Derived.WalkLawsBesides
import Derived.Outline
import Derived.Deep.CutRange
import Derived.Test.YtofffmnkoelifaaPk17
namespace Go.Proofs.Ytofffmnkoelifaa.rturn
open Go.ChangeShapes Go.WideShapes Go.ChangeAt Go.RowKit Go.Shelf
open Go.Proofs.Ytofffmnkoelifaa.nm Go.Proofs.Ytofffmnkoelifaa.vs Go.Proofs.Ytofffmnkoelifaa.oc Go.Proofs.Ytofffmnkoelifaa.cr Go.Proofs.Ytofffmnkoelifaa.rc

theorem awake_any (W : World) : Calls Try.prog 23 #[] W fun e w' => e = .returned (.bool true) ∧ Calm W w' := by
  have hf := box (Fill_any 3 W)
  rw [if_pos (by decide), show fillB (3 : Int).toNat = ⟨#[90, 0, 3]⟩ by decide] at hf
  go_enter Try.func23, Try.ntmps23
  go_wp2_with fail
  refine hf.out.mono ?_
  rintro e w1 ⟨rfl, hc⟩
  have C := box hc
  go_wp2_with fail
  go_ret
  exact ⟨rfl, C.out⟩

/-! The plain half. -/
/-- A head and a number's two bytes tell the number. -/
theorem head_tells (x : UInt8) (n : Nat) (hn : n < 65536) (l : List UInt8) {s : ByteArray} (hs : s.data.toList = x :: (low 2 n ++ l)) (h1 : 1 < s.size) (h2 : 2 < s.size) : 256 * s[1].toNat + s[2].toNat = n := by
  have e1 : s.data.toList[1]? = some (UInt8.ofNat (n / 256 ^ 1)) := by rw [hs]; rfl
  have e2 : s.data.toList[2]? = some (UInt8.ofNat (n / 256 ^ 0)) := by rw [hs]; rfl
  have g : ∀ k (hk : k < s.size), s.data.toList[k]? = some s[k] := fun k hk => by
    rw [List.getElem?_eq_getElem (by rw [size_toList]; exact hk)]; rfl
  rw [g 1 h1, Option.some.injEq] at e1
  rw [g 2 h2, Option.some.injEq] at e2
  rw [e1, e2]
  simp
  omega
theorem put_tells {m : MsgS} {s : ByteArray} (h : putS RightP m = (s, 0)) : 3 ≤ s.size ∧ s.size ≤ 1024 ∧ ∀ (h1 : 1 < s.size) (h2 : 2 < s.size), 256 * s[1].toNat + s[2].toNat = s.size := by
  unfold putS at h
  by_cases hp : RightP m
  · rw [if_neg (fun hh => hh hp)] at h
    by_cases hk : m.kind = 0
    · rw [if_pos hk] at h
      by_cases hz : 3 ≤ m.body.size ∧ m.body.size ≤ 1024
      · rw [if_pos hz] at h
        simp only [Prod.mk.injEq, and_true] at h
        subst h
        have hf : (fillB m.body.size).size = m.body.size := by show (_ : List UInt8).toArray.size = _; simp [low_length]; omega
        exact ⟨by rw [hf]; exact hz.1, by rw [hf]; exact hz.2, fun h1 h2 => (head_tells 90 m.body.size (by omega) (List.replicate (m.body.size - 3) 0) rfl h1 h2).trans hf.symm⟩
      · rw [if_neg hz] at h; simp at h
    · rw [if_neg hk] at h
      simp only [Prod.mk.injEq, and_true] at h
      subst h
      have F := right_fits m hp hk
      have hl := inside_length F
      have hsl := seal_length (insideL m)
      have hsz : (recB m).size = 3 + (sealL (insideL m)).length := by show (_ : List UInt8).toArray.size = _; simp [low_length]; omega
      exact ⟨by omega, by omega, fun h1 h2 => (head_tells 165 (3 + (sealL (insideL m)).length) (by omega) (sealL (insideL m)) rfl h1 h2).trans hsz.symm⟩
  · rw [if_pos hp] at h; simp at h
theorem get_none {s : ByteArray} (h : (getS RightP s).2.2 ≠ 0) : (getS RightP s).2.1 = 0 := by
  have h2 : (getS RightP s).2.2 = 0 ∨ (getS RightP s).2.1 = 0 := by
    unfold getS
    simp only
    repeat' split
    all_goals first | exact .inr rfl | exact .inl rfl
  exact h2.resolve_left h
theorem right_keys {m : MsgS} (h : RightP m) : m.keys.length ≤ 3 := by
  by_cases hk : m.kind = 0
  · rw [right_zero m h hk]; simp
  · exact (right_fits m h hk).keys
theorem put_right {m : MsgS} (h : (putS RightP m).2 = 0) : RightP m := by
  unfold putS at h
  by_cases hp : RightP m
  · exact hp
  · rw [if_pos hp] at h; cases h
/-- One byte is turned. -/
def turnB (s : ByteArray) (i : Nat) (c : UInt8) : ByteArray := ⟨(s.data.toList.set i c).toArray⟩
theorem turn_size (s : ByteArray) (i : Nat) (c : UInt8) : (turnB s i c).size = s.size := by show (s.data.toList.set i c).toArray.size = _; simp
theorem xor_ne (a b : Nat) (hb : b ≠ 0) : a ^^^ b ≠ a := fun h => hb (by
  have : a ^^^ (a ^^^ b) = a ^^^ a := by rw [h]
  rwa [← Nat.xor_assoc, Nat.xor_self, Nat.zero_xor] at this)
/-- What Get answers of turned bytes. -/
theorem turn_get {m : MsgS} {s : ByteArray} (h : putS RightP m = (s, 0)) (i : Nat) (hi : i < s.size) (b : Nat) (hb : b ≠ 0) (hb8 : b < 256) {x : MsgS} {n c : Int} (hg : getS RightP (turnB s i (UInt8.ofNat (s[i].toNat ^^^ b))) = (x, n, c)) :
    (c = 0 ∧ x ≠ m ∧ x.keys.length ≤ 3) ∨ (c ≠ 0 ∧ n = 0) := by
  by_cases hc : c = 0
  · subst hc
    have hp : (putS RightP m).2 = 0 := by rw [h]
    have hs1 : (putS RightP m).1 = s := by rw [h]
    refine .inl ⟨rfl, get_turned right_fill hp (by rw [turn_size, hs1]) (fun e => ?_) hg, ?_⟩
    · rw [hs1] at e
      have h1 := congrArg (fun t : ByteArray => t.data.toList[i]?) e
      simp only [turnB] at h1
      have hi' : i < s.data.toList.length := by rw [size_toList]; exact hi
      rw [List.getElem?_set_self hi', List.getElem?_eq_getElem hi', Option.some.injEq] at h1
      have h2 := congrArg UInt8.toNat h1
      have h3 : (s[i].toNat ^^^ b) < 256 := Nat.xor_lt_two_pow (n := 8) s[i].toNat_lt (by omega)
      rw [UInt8.toNat_ofNat', Nat.mod_eq_of_lt h3] at h2
      exact xor_ne _ b hb h2
    · obtain ⟨_, h1, _⟩ := get_put right_fill hg
      exact right_keys (put_right h1)
  · exact .inr ⟨hc, by
      have := get_none (s := turnB s i (UInt8.ofNat (s[i].toNat ^^^ b))) (by rw [hg]; exact hc)
      rw [hg] at this
      exact this⟩
theorem buf_put {w : World} {g cap : Nat} {l : List UInt8} (h : BufIs w g cap l) (i : Nat) (hi : i < l.length) (c : UInt8) : BufIs (w.setCell ⟨g, i, none⟩ (byteV c)) g cap (l.set i c) := by
  have := h.over i [c] (by simp; omega)
  rw [List.map_singleton, World.setCells, World.setCells] at this
  rw [List.set_eq_take_append_cons_drop, if_pos hi]
  simpa using this
theorem byte_wrap {n : Nat} (h : n < 256) : wrap64 (n : Int) = n ∧ wrap64 ((n : Int) * 256) = (n : Int) * 256 ∧ IntKind.i64.wrap (n : Int) = n ∧ IntKind.i64.wrap ((n : Int) * 256) = (n : Int) * 256 :=
  ⟨by unfold wrap64; omega, by unfold wrap64; omega, IntWalk.i64_in _ (by omega), IntWalk.i64_in _ (by omega)⟩
set_option maxRecDepth 100000 in
set_option maxHeartbeats 32000000 in
theorem walk (W : World) (y : MsgS × Value) (r : MsgIn W y) (at_ : Int) (hwa : (Lit.int .u16 at_).wf = true) (by_ : Int) (hwb : (Lit.int .u8 by_).wf = true) :
    Calls Try.prog 6 #[.agg (msgA y.1 y.2), .int .u16 at_, .int .u8 by_] W fun e W' => e = .returned (.bool true) ∧ Calm W W' := by
  obtain ⟨m, kv⟩ := y
  obtain ⟨hr, z1, z2, z3, zk, zr⟩ := r
  simp only at hr z1 z2 z3
  obtain ⟨hst, hkz⟩ := RowsAt.strs hr
  obtain ⟨ka, kcap, rfl, hun1⟩ := hst.uni
  have Sa := box hst
  have Za := box hkz
  have Wa := box (show m.body.size ≤ maxLen ∧ m.topic.size ≤ maxLen ∧ m.tag.size ≤ maxLen ∧ m.keys.length ≤ maxLen from ⟨z3, z1, z2, hkz.2⟩)
  have hat : 0 ≤ at_ ∧ at_ < 65536 := by unfold Lit.wf at hwa; simp [IntKind.min, IntKind.max, IntKind.bits, IntKind.signed] at hwa; omega
  have hby : 0 ≤ by_ ∧ by_ < 256 := by unfold Lit.wf at hwb; simp [IntKind.min, IntKind.max, IntKind.bits, IntKind.signed] at hwb; omega
  obtain ⟨a, rfl⟩ : ∃ a : Nat, at_ = a := ⟨at_.toNat, by omega⟩
  obtain ⟨b, rfl⟩ : ∃ b : Nat, by_ = b := ⟨by_.toNat, by omega⟩
  have ha16 : a < 65536 := by omega
  have hb8 : b < 256 := by omega
  clear hun1 hr hst hkz z1 z2 z3 zk zr hwa hwb hat hby
  obtain ⟨W1, hW1⟩ : ∃ W1, W.alloc (.cells (msgA m (.slice ka m.keys.length kcap)) 33) = W1 := ⟨_, rfl⟩
  have A0 := box (show W1.heap[W.heap.size]? = some (.cells (msgA m (.slice ka m.keys.length kcap)) 33 (0, 0)) by rw [← hW1]; exact heap_new W _)
  have C0 := box (show Calm W W1 by rw [← hW1]; exact (Calm.refl W).alloc _)
  have a0 := cell_of A0.out 0
  have a1 := cell_of A0.out 1
  have a2 := cell_of A0.out 2
  have a3 := cell_of A0.out 3
  have a4 := cell_of A0.out 4
  have a5 := cell_of A0.out 5
  have a6 := cell_of A0.out 6
  have a7 := cell_of A0.out 7
  have a8 := cell_of A0.out 8
  have a9 := cell_of A0.out 9
  have hla := heap_lt A0.out
  go_enter Try.func6, Try.ntmps6
  go_wp2_with fail
  clear hW1
  refine (awake_any _).mono ?_
  rintro e w1 ⟨rfl, hc1⟩
  have A1 := box (heap_calm hc1 A0.out)
  have C1 := box (C0.out.trans hc1)
  clear hc1 a0 a1 a2 a3 a4 a5 a6 a7 a8 a9 hla
  have a0 := cell_of A1.out 0
  have a1 := cell_of A1.out 1
  have a2 := cell_of A1.out 2
  have a3 := cell_of A1.out 3
  have a4 := cell_of A1.out 4
  have a5 := cell_of A1.out 5
  have a6 := cell_of A1.out 6
  have a7 := cell_of A1.out 7
  have a8 := cell_of A1.out 8
  have a9 := cell_of A1.out 9
  have hla := heap_lt A1.out
  have G1 := box (heap_new w1 (.cells (msgA m (.slice ka m.keys.length kcap)) 33))
  have G2 := box ((Calm.refl w1).alloc (.cells (msgA m (.slice ka m.keys.length kcap)) 33))
  go_wp2_with fail
  have hgr := Great_any w1.heap.size m (.slice ka m.keys.length kcap) _ G1.out (Sa.out.calm (C1.out.trans G2.out)) Za.out.1 Wa.out
  refine hgr.mono ?_
  clear hgr
  rintro e w2 ⟨gr, rfl, hc2, hsm⟩
  have hc2 := G2.out.trans hc2
  have A2 := box (heap_calm hc2 A1.out)
  have C2 := box (C1.out.trans hc2)
  clear hc2 a0 a1 a2 a3 a4 a5 a6 a7 a8 a9 hla
  have a0 := cell_of A2.out 0
  have a1 := cell_of A2.out 1
  have a2 := cell_of A2.out 2
  have a3 := cell_of A2.out 3
  have a4 := cell_of A2.out 4
  have a5 := cell_of A2.out 5
  have a6 := cell_of A2.out 6
  have a7 := cell_of A2.out 7
  have a8 := cell_of A2.out 8
  have a9 := cell_of A2.out 9
  have hla := heap_lt A2.out
  cases gr with
  | true =>
    go_wp2_with fail
    go_ret
    exact ⟨rfl, C2.out⟩
  | false =>
    by_cases hb0 : b = 0
    · subst hb0
      go_wp2_with fail
      go_ret
      exact ⟨rfl, C2.out⟩
    · have Hsm := box (hsm rfl)
      clear hsm G1 G2
      have hbz : ((b : Int) == 0) = false := beq_eq_false_iff_ne.2 (by omega)
      have ha1 : m.keys.length ≤ 1000000 := by have := Hsm.out.2.2.2.1; omega
      have ha2 : m.body.size ≤ 140737488355328 := by have := Hsm.out.1; omega
      have hput := box (fun (b : Nat) (w : World) (hC : Calm W w) (ht : TabAt w b 1024) => Put_any b m (.slice ka m.keys.length kcap) w ht (Sa.out.calm hC) Za.out.1 ha1 ha2)
      have hrs := box (fun (x : MsgS) (v : Value) (w : World) (hC : Calm W w) (hx : StrsAt w v x.keys) (hl : x.keys.length ≤ 1000000) => Same_any x m v (.slice ka m.keys.length kcap) w hx (Sa.out.calm hC) hl ha1)
      obtain ⟨⟨s, x⟩, hp⟩ : ∃ r, putS RightP m = r := ⟨_, rfl⟩
      rw [hp] at hput
      have Hp := box hp
      clear hp ha1 ha2
      go_wp2_with fail
      refine (cr.New_any _).mono ?_
      rintro e w3 ⟨tb, rfl, htab, htb, hc3⟩
      have T3 := box htab
      clear htab htb
      have A3 := box (heap_calm hc3 A2.out)
      have C3 := box (C2.out.trans hc3)
      clear hc3 a0 a1 a2 a3 a4 a5 a6 a7 a8 a9 hla
      have a0 := cell_of A3.out 0
      have a1 := cell_of A3.out 1
      have a2 := cell_of A3.out 2
      have a3 := cell_of A3.out 3
      have a4 := cell_of A3.out 4
      have a5 := cell_of A3.out 5
      have a6 := cell_of A3.out 6
      have a7 := cell_of A3.out 7
      have a8 := cell_of A3.out 8
      have a9 := cell_of A3.out 9
      have hla := heap_lt A3.out
      go_wp2_with fail
      refine (hput.out tb _ C3.out T3.out).mono ?_
      rintro e w5 ⟨rfl, hc5⟩
      have T5 := box (heap_calm hc5 T3.out)
      have A5 := box (heap_calm hc5 A3.out)
      have C5 := box (C3.out.trans hc5)
      clear hc5 a0 a1 a2 a3 a4 a5 a6 a7 a8 a9 hla
      have a0 := cell_of A5.out 0
      have a1 := cell_of A5.out 1
      have a2 := cell_of A5.out 2
      have a3 := cell_of A5.out 3
      have a4 := cell_of A5.out 4
      have a5 := cell_of A5.out 5
      have a6 := cell_of A5.out 6
      have a7 := cell_of A5.out 7
      have a8 := cell_of A5.out 8
      have a9 := cell_of A5.out 9
      have hla := heap_lt A5.out
      by_cases hx : x = 0
      · subst hx
        obtain ⟨h3, h1024, htell⟩ := put_tells Hp.out
        obtain ⟨g, cap, w6, hrun, hbuf, hcv, hgw⟩ := conv_bytes (P := Try.prog) w5 9 55 5 s Try.underlying9 Try.underlying55 Try.underlying5
        have hi : a % s.size < s.size := Nat.mod_lt _ (by omega)
        have hrem : Int.tmod (a : Int) (s.size : Int) = ((a % s.size : Nat) : Int) := by rw [Int.tmod_eq_emod_of_nonneg (by omega)]; omega
        have hturn := box (fun (x : MsgS) (n c : Int) => turn_get Hp.out (a % s.size) hi b hb0 hb8 (x := x) (n := n) (c := c))
        obtain ⟨i, hia⟩ : ∃ i, a % s.size = i := ⟨_, rfl⟩
        simp only [hia] at hi hrem hturn
        have hxor := xor8 s[i].toNat b s[i].toNat_lt hb8
        have hci : w6.cell? ⟨g, i, none⟩ = some (.int .u8 (s[i].toNat : Int)) := by
          rw [hbuf.cells i (by rw [size_toList]; exact hi), List.getD_eq_getElem?_getD, List.getElem?_eq_getElem (by rw [size_toList]; exact hi)]; rfl
        have hfi := hbuf.free i (by have := hbuf.le; rw [size_toList] at this; omega)
        have hb7 := box (buf_put hbuf i (by rw [size_toList]; exact hi) (UInt8.ofNat (s[i].toNat ^^^ b)))
        have h38 : (s[i].toNat ^^^ b) < 256 := Nat.xor_lt_two_pow (n := 8) s[i].toNat_lt (by omega)
        have hby : byteV (UInt8.ofNat (s[i].toNat ^^^ b)) = .int .u8 ((s[i].toNat ^^^ b : Nat) : Int) := by unfold byteV; rw [UInt8.toNat_ofNat', Nat.mod_eq_of_lt h38]
        rw [hby] at hb7
        have ht1 : s[1].toNat < 256 := s[1].toNat_lt
        have ht2 : s[2].toNat < 256 := s[2].toNat_lt
        have hn1 : 1 < s.size := by omega
        have hn2 : 2 < s.size := by omega
        have htell := htell hn1 hn2
        have hstr : (convert 55 9 (.slice (some ⟨g, 0, none⟩) s.size cap)).run Try.prog (w6.setCell ⟨g, i, none⟩ (.int .u8 ((s[i].toNat ^^^ b : Nat) : Int))) = .ok (.string (turnB s i (UInt8.ofNat (s[i].toNat ^^^ b)))) (w6.setCell ⟨g, i, none⟩ (.int .u8 ((s[i].toNat ^^^ b : Nat) : Int))) := by
          have := conv_string (P := Try.prog) _ 55 9 5 Try.underlying55 Try.underlying5 Try.underlying9 hb7.out cap
          rw [List.length_set, size_toList] at this
          exact this
        have T7 := box (show TabAt (w6.setCell ⟨g, i, none⟩ (.int .u8 ((s[i].toNat ^^^ b : Nat) : Int))) tb 1024 from (heap_set_other (b' := g) (fun e => by have := heap_lt T5.out; omega) i (.int .u8 ((s[i].toNat ^^^ b : Nat) : Int))).trans (heap_calm hcv T5.out))
        have A7 := box ((heap_set_other (b' := g) (fun e => by have := heap_lt A5.out; omega) i (.int .u8 ((s[i].toNat ^^^ b : Nat) : Int))).trans (heap_calm hcv A5.out))
        have C7 := box (calm_setCell (C5.out.trans hcv) (p := ⟨g, i, none⟩) (by have := C5.out.size; simp only; omega) (.int .u8 ((s[i].toNat ^^^ b : Nat) : Int)))
        have hget := box (fun (w : World) (ht : TabAt w tb 1024) => Get_any tb (turnB s i (UInt8.ofNat (s[i].toNat ^^^ b))) w ht (by rw [turn_size]; omega))
        have tz := turn_size s i (UInt8.ofNat (s[i].toNat ^^^ b))
        obtain ⟨u, hu⟩ : ∃ u, turnB s i (UInt8.ofNat (s[i].toNat ^^^ b)) = u := ⟨_, rfl⟩
        simp only [hu] at hstr hget hturn tz
        obtain ⟨⟨x, n, c⟩, hg⟩ : ∃ r, getS RightP u = r := ⟨_, rfl⟩
        have hans := box (hturn.out x n c hg)
        rw [hg] at hget
        have hcn := box hrun
        obtain ⟨z, hz⟩ : ∃ z, s[i].toNat ^^^ b = z := ⟨_, rfl⟩
        rw [hz] at hxor hstr T7 A7 C7 h38
        have hgl : g < w6.heap.size := hbuf.lt
        have hor := or_join (s[1]'(by omega)).toNat (s[2]'(by omega)).toNat (by omega) ht2
        obtain ⟨w1, w1', q1, q2⟩ := byte_wrap ht1
        obtain ⟨w2, _, q3, _⟩ := byte_wrap ht2
        have hor1 := box (show bits .or .i64 ((s[1].toNat : Int) * 256) (s[2].toNat : Int) = (s.size : Int) by rw [w1', w2, htell] at hor; exact hor)
        have Q := box (show IntKind.i64.wrap (s[1].toNat : Int) = (s[1].toNat : Int) ∧ IntKind.i64.wrap ((s[1].toNat : Int) * 256) = (s[1].toNat : Int) * 256 ∧ IntKind.i64.wrap (s[2].toNat : Int) = (s[2].toNat : Int) from ⟨q1, q2, q3⟩)
        clear hor w1 w1' w2 q1 q2 q3
        clear hturn hg hu hby hb7 hbuf hz hcv T3 A3 C3 Hp hput
        have hrun := hcn.out
        have hs0 : ¬ s.size = 0 := by omega
        have hse : ¬ s = ByteArray.empty := fun e => by rw [e] at hs0; exact hs0 rfl
        have hs00 : ((s.size : Int) == 0) = false := beq_eq_false_iff_ne.2 (by omega)
        go_wp2_with fail
        refine (hget.out _ T7.out).mono ?_
        rintro e w8 ⟨kx, rfl, hsx, hc8⟩
        obtain ⟨xa, xcap, rfl, hun2⟩ := hsx.uni
        clear hun2
        have Sx := box hsx
        have A8 := box (heap_calm hc8 A7.out)
        have C8 := box (C7.out.trans hc8)
        have X9 := box (heap_new w8 (.cells (msgA x (.slice xa x.keys.length xcap)) 33))
        have Ca := box ((Calm.refl w8).alloc (.cells (msgA x (.slice xa x.keys.length xcap)) 33))
        have hq1 : (1 : Int) < s.size := by omega
        have hq2 : (2 : Int) < s.size := by omega
        have hn1 : 1 < s.size := by omega
        have hn2 : 2 < s.size := by omega
        clear hsx hc8 a0 a1 a2 a3 a4 a5 a6 a7 a8 a9 hla hci hfi hxor hrun hstr hcn hgl h38 hrem
        have A9 := box (heap_calm Ca.out A8.out)
        have Sx9 := box (Sx.out.calm Ca.out)
        have C9 := box (C8.out.trans Ca.out)
        obtain ⟨w9, hw9⟩ : ∃ X, w8.alloc (.cells (msgA x (.slice xa x.keys.length xcap)) 33) = X := ⟨_, rfl⟩
        go_upto_region 12 with (fail)
        rw [hw9] at X9 Ca A9 C9 Sx9
        clear Sx
        (try rw [hw9])
        ((try clear ha16); (try clear hb8); (try clear hb0); (try clear hbz); (try clear Za); (try clear Wa); (try clear Hsm); (try clear A0); (try clear A1); (try clear A2); (try clear A5); (try clear A7); (try clear A8); (try clear C0); (try clear C1); (try clear C2); (try clear C5); (try clear C7); (try clear C8); (try clear T5); (try clear T7); (try clear ht1); (try clear ht2); (try clear htell); (try clear h3); (try clear h1024); (try clear hi); (try clear hget); (try clear tz); (try clear hcn); (try clear hs0); (try clear hse); (try clear hs00); (try clear hgw); (try clear hw9); (try clear hrun); (try clear Ca); (try clear Hc))
        have hor2 := hor1.out
        obtain ⟨q1, q2, q3⟩ := Q.out
        clear hor1 Q
        rcases hans.out with ⟨rfl, hxm, hxk⟩ | ⟨hc0, rfl⟩
        · have hss := box (fun (w : World) (hC : Calm W w) (hx : StrsAt w (.slice xa x.keys.length xcap) x.keys) => (show Calls Try.prog 27 #[.agg (msgA x (.slice xa x.keys.length xcap)), .agg (msgA m (.slice ka m.keys.length kcap))] w fun e w' => e = .returned (.bool false) ∧ Calm w w' from by
            have := hrs.out x (.slice xa x.keys.length xcap) w hC hx (by omega)
            rwa [decide_eq_false hxm] at this))
          clear hrs hans hxm hxk
          refine wp_region_held_drew (S := fun w' => Box (w'.cell? ⟨W.heap.size, 0, none⟩ = some (.int .i64 m.kind) ∧ w'.cell? ⟨W.heap.size, 1, none⟩ = some (.int .i64 m.queue) ∧ w'.cell? ⟨W.heap.size, 2, none⟩ = some (.int .i64 m.due) ∧ w'.cell? ⟨W.heap.size, 3, none⟩ = some (.int .i64 m.retry) ∧ w'.cell? ⟨W.heap.size, 4, none⟩ = some (.int .i64 m.ref) ∧ w'.cell? ⟨W.heap.size, 5, none⟩ = some (.int .i64 m.born) ∧ w'.cell? ⟨W.heap.size, 6, none⟩ = some (.string m.topic) ∧ w'.cell? ⟨W.heap.size, 7, none⟩ = some (.string m.tag) ∧ w'.cell? ⟨W.heap.size, 8, none⟩ = some (.string m.body) ∧ w'.cell? ⟨W.heap.size, 9, none⟩ = some (Value.slice ka m.keys.length kcap)) ∧ Box (w'.cell? ⟨w8.heap.size, 0, none⟩ = some (.int .i64 x.kind) ∧ w'.cell? ⟨w8.heap.size, 1, none⟩ = some (.int .i64 x.queue) ∧ w'.cell? ⟨w8.heap.size, 2, none⟩ = some (.int .i64 x.due) ∧ w'.cell? ⟨w8.heap.size, 3, none⟩ = some (.int .i64 x.retry) ∧ w'.cell? ⟨w8.heap.size, 4, none⟩ = some (.int .i64 x.ref) ∧ w'.cell? ⟨w8.heap.size, 5, none⟩ = some (.int .i64 x.born) ∧ w'.cell? ⟨w8.heap.size, 6, none⟩ = some (.string x.topic) ∧ w'.cell? ⟨w8.heap.size, 7, none⟩ = some (.string x.tag) ∧ w'.cell? ⟨w8.heap.size, 8, none⟩ = some (.string x.body) ∧ w'.cell? ⟨w8.heap.size, 9, none⟩ = some (Value.slice xa x.keys.length xcap))) (by kernel_rfl) ⟨box ⟨cell_of A9.out 0, cell_of A9.out 1, cell_of A9.out 2, cell_of A9.out 3, cell_of A9.out 4, cell_of A9.out 5, cell_of A9.out 6, cell_of A9.out 7, cell_of A9.out 8, cell_of A9.out 9⟩, box ⟨cell_of X9.out 0, cell_of X9.out 1, cell_of X9.out 2, cell_of X9.out 3, cell_of X9.out 4, cell_of X9.out 5, cell_of X9.out 6, cell_of X9.out 7, cell_of X9.out 8, cell_of X9.out 9⟩⟩ (fun hHeld => ?_)
          have C10 := box (C9.out.drew)
          have Sx10 := box (show StrsAt w9.drew _ _ from Sx9.out.calm ((Calm.refl _).drew))
          ((refine' wpAnyH_take (i := 0) (v := _) rfl (by kernel_rfl) (by kernel_rfl) (by kernel_rfl) (fun _ _ _ h => h) (Or.inl ⟨by rfl, ?hy1⟩) (by assumption) ?rest1; (case hy1 => (intro w hSw; (try dsimp only at hSw); go_simp <;> with_reducible rfl)); simp only [List.getElem_toArray, List.getElem_cons_succ, List.getElem_cons_zero, Act.put, List.setIfInBounds_toArray, List.set_cons_zero, List.set_cons_succ]); (refine' wpAnyH_take (i := 1) (v := _) rfl (by kernel_rfl) (by kernel_rfl) (by kernel_rfl) (fun _ _ _ h => h) (Or.inl ⟨by rfl, ?hy2⟩) (by assumption) ?rest2; (case hy2 => (intro w hSw; (try dsimp only at hSw); go_simp <;> with_reducible rfl)); simp only [List.getElem_toArray, List.getElem_cons_succ, List.getElem_cons_zero, Act.put, List.setIfInBounds_toArray, List.set_cons_zero, List.set_cons_succ]); (refine' wpAnyH_take (i := 2) (v := _) rfl (by kernel_rfl) (by kernel_rfl) (by kernel_rfl) (fun _ _ _ h => h) (Or.inl ⟨by rfl, ?hy3⟩) (by assumption) ?rest3; (case hy3 => (intro w hSw; (try dsimp only at hSw); go_simp <;> with_reducible rfl)); simp only [List.getElem_toArray, List.getElem_cons_succ, List.getElem_cons_zero, Act.put, List.setIfInBounds_toArray, List.set_cons_zero, List.set_cons_succ]); (refine' wpAnyH_take (i := 3) (v := _) rfl (by kernel_rfl) (by kernel_rfl) (by kernel_rfl) (fun _ _ _ h => h) (Or.inl ⟨by rfl, ?hy4⟩) (by assumption) ?rest4; (case hy4 => (intro w hSw; (try dsimp only at hSw); go_simp <;> with_reducible rfl)); simp only [List.getElem_toArray, List.getElem_cons_succ, List.getElem_cons_zero, Act.put, List.setIfInBounds_toArray, List.set_cons_zero, List.set_cons_succ]); (refine' wpAnyH_take (i := 4) (v := _) rfl (by kernel_rfl) (by kernel_rfl) (by kernel_rfl) (fun _ _ _ h => h) (Or.inl ⟨by rfl, ?hy5⟩) (by assumption) ?rest5; (case hy5 => (intro w hSw; (try dsimp only at hSw); go_simp <;> with_reducible rfl)); simp only [List.getElem_toArray, List.getElem_cons_succ, List.getElem_cons_zero, Act.put, List.setIfInBounds_toArray, List.set_cons_zero, List.set_cons_succ]); (refine' wpAnyH_take (i := 5) (v := _) rfl (by kernel_rfl) (by kernel_rfl) (by kernel_rfl) (fun _ _ _ h => h) (Or.inl ⟨by rfl, ?hy6⟩) (by assumption) ?rest6; (case hy6 => (intro w hSw; (try dsimp only at hSw); go_simp <;> with_reducible rfl)); simp only [List.getElem_toArray, List.getElem_cons_succ, List.getElem_cons_zero, Act.put, List.setIfInBounds_toArray, List.set_cons_zero, List.set_cons_succ]); (refine' wpAnyH_take (i := 6) (v := _) rfl (by kernel_rfl) (by kernel_rfl) (by kernel_rfl) (fun _ _ _ h => h) (Or.inl ⟨by rfl, ?hy7⟩) (by assumption) ?rest7; (case hy7 => (intro w hSw; (try dsimp only at hSw); go_simp <;> with_reducible rfl)); simp only [List.getElem_toArray, List.getElem_cons_succ, List.getElem_cons_zero, Act.put, List.setIfInBounds_toArray, List.set_cons_zero, List.set_cons_succ]); (refine' wpAnyH_take (i := 7) (v := _) rfl (by kernel_rfl) (by kernel_rfl) (by kernel_rfl) (fun _ _ _ h => h) (Or.inl ⟨by rfl, ?hy8⟩) (by assumption) ?rest8; (case hy8 => (intro w hSw; (try dsimp only at hSw); go_simp <;> with_reducible rfl)); simp only [List.getElem_toArray, List.getElem_cons_succ, List.getElem_cons_zero, Act.put, List.setIfInBounds_toArray, List.set_cons_zero, List.set_cons_succ]); (refine' wpAnyH_take (i := 8) (v := _) rfl (by kernel_rfl) (by kernel_rfl) (by kernel_rfl) (fun _ _ _ h => h) (Or.inl ⟨by rfl, ?hy9⟩) (by assumption) ?rest9; (case hy9 => (intro w hSw; (try dsimp only at hSw); go_simp <;> with_reducible rfl)); simp only [List.getElem_toArray, List.getElem_cons_succ, List.getElem_cons_zero, Act.put, List.setIfInBounds_toArray, List.set_cons_zero, List.set_cons_succ]); (refine' wpAnyH_take (i := 9) (v := _) rfl (by kernel_rfl) (by kernel_rfl) (by kernel_rfl) (fun _ _ _ h => h) (Or.inl ⟨by rfl, ?hy10⟩) (by assumption) ?rest10; (case hy10 => (intro w hSw; (try dsimp only at hSw); go_simp <;> with_reducible rfl)); simp only [List.getElem_toArray, List.getElem_cons_succ, List.getElem_cons_zero, Act.put, List.setIfInBounds_toArray, List.set_cons_zero, List.set_cons_succ]); (refine' wpAnyH_take (i := 10) (v := _) rfl (by kernel_rfl) (by kernel_rfl) (by kernel_rfl) (fun _ _ _ h => h) (Or.inl ⟨by rfl, ?hy11⟩) (by assumption) ?rest11; (case hy11 => (intro w hSw; (try dsimp only at hSw); go_simp <;> with_reducible rfl)); simp only [List.getElem_toArray, List.getElem_cons_succ, List.getElem_cons_zero, Act.put, List.setIfInBounds_toArray, List.set_cons_zero, List.set_cons_succ]); (refine' wpAnyH_take (i := 11) (v := _) rfl (by kernel_rfl) (by kernel_rfl) (by kernel_rfl) (fun _ _ _ h => h) (Or.inl ⟨by rfl, ?hy12⟩) (by assumption) ?rest12; (case hy12 => (intro w hSw; (try dsimp only at hSw); go_simp <;> with_reducible rfl)); simp only [List.getElem_toArray, List.getElem_cons_succ, List.getElem_cons_zero, Act.put, List.setIfInBounds_toArray, List.set_cons_zero, List.set_cons_succ]); (refine' wpAnyH_take (i := 12) (v := _) rfl (by kernel_rfl) (by kernel_rfl) (by kernel_rfl) (fun _ _ _ h => h) (Or.inl ⟨by rfl, ?hy13⟩) (by assumption) ?rest13; (case hy13 => (intro w hSw; (try dsimp only at hSw); go_simp <;> with_reducible rfl)); simp only [List.getElem_toArray, List.getElem_cons_succ, List.getElem_cons_zero, Act.put, List.setIfInBounds_toArray, List.set_cons_zero, List.set_cons_succ]); (refine' wpAnyH_take (i := 13) (v := _) rfl (by kernel_rfl) (by kernel_rfl) (by kernel_rfl) (fun _ _ _ h => h) (Or.inl ⟨by rfl, ?hy14⟩) (by assumption) ?rest14; (case hy14 => (intro w hSw; (try dsimp only at hSw); go_simp <;> with_reducible rfl)); simp only [List.getElem_toArray, List.getElem_cons_succ, List.getElem_cons_zero, Act.put, List.setIfInBounds_toArray, List.set_cons_zero, List.set_cons_succ]); (refine' wpAnyH_take (i := 14) (v := _) rfl (by kernel_rfl) (by kernel_rfl) (by kernel_rfl) (fun _ _ _ h => h) (Or.inl ⟨by rfl, ?hy15⟩) (by assumption) ?rest15; (case hy15 => (intro w hSw; (try dsimp only at hSw); go_simp <;> with_reducible rfl)); simp only [List.getElem_toArray, List.getElem_cons_succ, List.getElem_cons_zero, Act.put, List.setIfInBounds_toArray, List.set_cons_zero, List.set_cons_succ]))
          ((refine' wpAnyH_take (i := 15) (v := _) rfl (by kernel_rfl) (by kernel_rfl) (by kernel_rfl) (fun _ _ _ h => h) (Or.inl ⟨by rfl, ?hy16⟩) (by assumption) ?rest16; (case hy16 => (intro w hSw; obtain ⟨⟨hSw1⟩, ⟨hSw2⟩⟩ := hSw; go_simp <;> with_reducible rfl)); simp only [List.getElem_toArray, List.getElem_cons_succ, List.getElem_cons_zero, Act.put, List.setIfInBounds_toArray, List.set_cons_zero, List.set_cons_succ]); (refine' wpAnyH_take (i := 16) (v := _) rfl (by kernel_rfl) (by kernel_rfl) (by kernel_rfl) (fun _ _ _ h => h) (Or.inl ⟨by rfl, ?hy17⟩) (by assumption) ?rest17; (case hy17 => (intro w hSw; obtain ⟨⟨hSw1⟩, ⟨hSw2⟩⟩ := hSw; go_simp <;> with_reducible rfl)); simp only [List.getElem_toArray, List.getElem_cons_succ, List.getElem_cons_zero, Act.put, List.setIfInBounds_toArray, List.set_cons_zero, List.set_cons_succ]))
          refine wpAnyH_ready (rs := [17]) (by kernel_rfl) (by simp) ?_
          refine AllReadyH.cons rfl (fun K hK => ?_) AllReadyH.nil
          rw [if_pos (by rfl)]
          go_simp
          refine (hss.out _ C10.out Sx10.out).mono ?_
          rintro e w11 ⟨rfl, hb⟩
          have A11 := box (heap_calm hb (show w9.drew.heap[W.heap.size]? = _ from A9.out))
          have X11 := box (heap_calm hb (show w9.drew.heap[w8.heap.size]? = _ from X9.out))
          have C11 := box (C10.out.trans hb)
          clear hb
          go_wp2_with fail
          refine hK.out _ _ ⟨box ⟨cell_of A11.out 0, cell_of A11.out 1, cell_of A11.out 2, cell_of A11.out 3, cell_of A11.out 4, cell_of A11.out 5, cell_of A11.out 6, cell_of A11.out 7, cell_of A11.out 8, cell_of A11.out 9⟩, box ⟨cell_of X11.out 0, cell_of X11.out 1, cell_of X11.out 2, cell_of X11.out 3, cell_of X11.out 4, cell_of X11.out 5, cell_of X11.out 6, cell_of X11.out 7, cell_of X11.out 8, cell_of X11.out 9⟩⟩ (fun hHeld11 => ?_)
          clear hK K
          try simp only [List.getElem_toArray, List.getElem_cons_succ, List.getElem_cons_zero, Act.put, List.setIfInBounds_toArray, List.set_cons_zero, List.set_cons_succ]
          ((refine' wpAnyH_take (i := 18) (v := _) rfl (by kernel_rfl) (by kernel_rfl) (by kernel_rfl) (fun _ _ _ h => h) (Or.inl ⟨by rfl, ?hy18⟩) (by assumption) ?rest18; (case hy18 => (intro w hSw; (try dsimp only at hSw); go_simp <;> with_reducible rfl)); simp only [List.getElem_toArray, List.getElem_cons_succ, List.getElem_cons_zero, Act.put, List.setIfInBounds_toArray, List.set_cons_zero, List.set_cons_succ]); (refine' wpAnyH_take (i := 19) (v := _) rfl (by kernel_rfl) (by kernel_rfl) (by kernel_rfl) (fun _ _ _ h => h) (Or.inl ⟨by rfl, ?hy19⟩) (by assumption) ?rest19; (case hy19 => (intro w hSw; (try dsimp only at hSw); go_simp <;> with_reducible rfl)); simp only [List.getElem_toArray, List.getElem_cons_succ, List.getElem_cons_zero, Act.put, List.setIfInBounds_toArray, List.set_cons_zero, List.set_cons_succ]); (refine' wpAnyH_take (i := 20) (v := _) rfl (by kernel_rfl) (by kernel_rfl) (by kernel_rfl) (fun _ _ _ h => h) (Or.inl ⟨by rfl, ?hy20⟩) (by assumption) ?rest20; (case hy20 => (intro w hSw; (try dsimp only at hSw); go_simp <;> with_reducible rfl)); simp only [List.getElem_toArray, List.getElem_cons_succ, List.getElem_cons_zero, Act.put, List.setIfInBounds_toArray, List.set_cons_zero, List.set_cons_succ]); (refine' wpAnyH_take (i := 21) (v := _) rfl (by kernel_rfl) (by kernel_rfl) (by kernel_rfl) (fun _ _ _ h => h) (Or.inl ⟨by rfl, ?hy21⟩) (by assumption) ?rest21; (case hy21 => (intro w hSw; (try dsimp only at hSw); go_simp <;> with_reducible rfl)); simp only [List.getElem_toArray, List.getElem_cons_succ, List.getElem_cons_zero, Act.put, List.setIfInBounds_toArray, List.set_cons_zero, List.set_cons_succ]); (refine' wpAnyH_take (i := 22) (v := _) rfl (by kernel_rfl) (by kernel_rfl) (by kernel_rfl) (fun _ _ _ h => h) (Or.inl ⟨by rfl, ?hy22⟩) (by assumption) ?rest22; (case hy22 => (intro w hSw; (try dsimp only at hSw); go_simp <;> with_reducible rfl)); simp only [List.getElem_toArray, List.getElem_cons_succ, List.getElem_cons_zero, Act.put, List.setIfInBounds_toArray, List.set_cons_zero, List.set_cons_succ]); (refine' wpAnyH_take (i := 23) (v := _) rfl (by kernel_rfl) (by kernel_rfl) (by kernel_rfl) (fun _ _ _ h => h) (Or.inl ⟨by rfl, ?hy23⟩) (by assumption) ?rest23; (case hy23 => (intro w hSw; (try dsimp only at hSw); go_simp <;> with_reducible rfl)); simp only [List.getElem_toArray, List.getElem_cons_succ, List.getElem_cons_zero, Act.put, List.setIfInBounds_toArray, List.set_cons_zero, List.set_cons_succ]); (refine' wpAnyH_take (i := 24) (v := _) rfl (by kernel_rfl) (by kernel_rfl) (by kernel_rfl) (fun _ _ _ h => h) (Or.inl ⟨by rfl, ?hy24⟩) (by assumption) ?rest24; (case hy24 => (intro w hSw; (try dsimp only at hSw); go_simp <;> with_reducible rfl)); simp only [List.getElem_toArray, List.getElem_cons_succ, List.getElem_cons_zero, Act.put, List.setIfInBounds_toArray, List.set_cons_zero, List.set_cons_succ]))
          ((refine' wpAnyH_take (i := 25) (v := _) rfl (by kernel_rfl) (by kernel_rfl) (by kernel_rfl) (fun _ _ _ h => h) (Or.inr ⟨by rfl, rfl⟩) (by assumption) ?rest25; simp only [List.getElem_toArray, List.getElem_cons_succ, List.getElem_cons_zero, Act.put, List.setIfInBounds_toArray, List.set_cons_zero, List.set_cons_succ]); (refine' wpAnyH_take (i := 26) (v := _) rfl (by kernel_rfl) (by kernel_rfl) (by kernel_rfl) (fun _ _ _ h => h) (Or.inr ⟨by rfl, rfl⟩) (by assumption) ?rest26; simp only [List.getElem_toArray, List.getElem_cons_succ, List.getElem_cons_zero, Act.put, List.setIfInBounds_toArray, List.set_cons_zero, List.set_cons_succ]))
          ((refine' wpAnyH_take (i := 27) (v := _) rfl (by kernel_rfl) (by kernel_rfl) (by kernel_rfl) (fun _ _ _ h => h) (Or.inl ⟨by rfl, ?hy27⟩) (by assumption) ?rest27; (case hy27 => (intro w hSw; (try dsimp only at hSw); go_simp <;> with_reducible rfl)); simp only [List.getElem_toArray, List.getElem_cons_succ, List.getElem_cons_zero, Act.put, List.setIfInBounds_toArray, List.set_cons_zero, List.set_cons_succ]); (refine' wpAnyH_take (i := 28) (v := _) rfl (by kernel_rfl) (by kernel_rfl) (by kernel_rfl) (fun _ _ _ h => h) (Or.inl ⟨by rfl, ?hy28⟩) (by assumption) ?rest28; (case hy28 => (intro w hSw; (try dsimp only at hSw); go_simp <;> with_reducible rfl)); simp only [List.getElem_toArray, List.getElem_cons_succ, List.getElem_cons_zero, Act.put, List.setIfInBounds_toArray, List.set_cons_zero, List.set_cons_succ]); (refine' wpAnyH_take (i := 29) (v := _) rfl (by kernel_rfl) (by kernel_rfl) (by kernel_rfl) (fun _ _ _ h => h) (Or.inl ⟨by rfl, ?hy29⟩) (by assumption) ?rest29; (case hy29 => (intro w hSw; (try dsimp only at hSw); go_simp <;> with_reducible rfl)); simp only [List.getElem_toArray, List.getElem_cons_succ, List.getElem_cons_zero, Act.put, List.setIfInBounds_toArray, List.set_cons_zero, List.set_cons_succ]))
          refine wpAnyH_done (by kernel_rfl) ?_ _
          go_wp2_with fail
          go_ret
          exact ⟨rfl, C11.out⟩
        · have hcb : (c == 0) = false := beq_eq_false_iff_ne.2 hc0
          have hcn : (c != 0) = true := bne_iff_ne.2 hc0
          clear hrs hans
          refine wp_region_held_drew (S := fun _ => True) (by kernel_rfl) trivial (fun hHeld => ?_)
          ((refine' wpAnyH_take (i := 0) (v := _) rfl (by kernel_rfl) (by kernel_rfl) (by kernel_rfl) (fun _ _ _ h => h) (Or.inl ⟨by rfl, ?hy30⟩) (by assumption) ?rest30; (case hy30 => (intro w hSw; (try dsimp only at hSw); go_simp <;> with_reducible rfl)); simp only [List.getElem_toArray, List.getElem_cons_succ, List.getElem_cons_zero, Act.put, List.setIfInBounds_toArray, List.set_cons_zero, List.set_cons_succ]); (refine' wpAnyH_take (i := 1) (v := _) rfl (by kernel_rfl) (by kernel_rfl) (by kernel_rfl) (fun _ _ _ h => h) (Or.inl ⟨by rfl, ?hy31⟩) (by assumption) ?rest31; (case hy31 => (intro w hSw; (try dsimp only at hSw); go_simp <;> with_reducible rfl)); simp only [List.getElem_toArray, List.getElem_cons_succ, List.getElem_cons_zero, Act.put, List.setIfInBounds_toArray, List.set_cons_zero, List.set_cons_succ]); (refine' wpAnyH_take (i := 2) (v := _) rfl (by kernel_rfl) (by kernel_rfl) (by kernel_rfl) (fun _ _ _ h => h) (Or.inl ⟨by rfl, ?hy32⟩) (by assumption) ?rest32; (case hy32 => (intro w hSw; (try dsimp only at hSw); go_simp <;> with_reducible rfl)); simp only [List.getElem_toArray, List.getElem_cons_succ, List.getElem_cons_zero, Act.put, List.setIfInBounds_toArray, List.set_cons_zero, List.set_cons_succ]); (refine' wpAnyH_take (i := 3) (v := _) rfl (by kernel_rfl) (by kernel_rfl) (by kernel_rfl) (fun _ _ _ h => h) (Or.inl ⟨by rfl, ?hy33⟩) (by assumption) ?rest33; (case hy33 => (intro w hSw; (try dsimp only at hSw); go_simp <;> with_reducible rfl)); simp only [List.getElem_toArray, List.getElem_cons_succ, List.getElem_cons_zero, Act.put, List.setIfInBounds_toArray, List.set_cons_zero, List.set_cons_succ]); (refine' wpAnyH_take (i := 4) (v := _) rfl (by kernel_rfl) (by kernel_rfl) (by kernel_rfl) (fun _ _ _ h => h) (Or.inl ⟨by rfl, ?hy34⟩) (by assumption) ?rest34; (case hy34 => (intro w hSw; (try dsimp only at hSw); go_simp <;> with_reducible rfl)); simp only [List.getElem_toArray, List.getElem_cons_succ, List.getElem_cons_zero, Act.put, List.setIfInBounds_toArray, List.set_cons_zero, List.set_cons_succ]); (refine' wpAnyH_take (i := 5) (v := _) rfl (by kernel_rfl) (by kernel_rfl) (by kernel_rfl) (fun _ _ _ h => h) (Or.inl ⟨by rfl, ?hy35⟩) (by assumption) ?rest35; (case hy35 => (intro w hSw; (try dsimp only at hSw); go_simp <;> with_reducible rfl)); simp only [List.getElem_toArray, List.getElem_cons_succ, List.getElem_cons_zero, Act.put, List.setIfInBounds_toArray, List.set_cons_zero, List.set_cons_succ]); (refine' wpAnyH_take (i := 6) (v := _) rfl (by kernel_rfl) (by kernel_rfl) (by kernel_rfl) (fun _ _ _ h => h) (Or.inl ⟨by rfl, ?hy36⟩) (by assumption) ?rest36; (case hy36 => (intro w hSw; (try dsimp only at hSw); go_simp <;> with_reducible rfl)); simp only [List.getElem_toArray, List.getElem_cons_succ, List.getElem_cons_zero, Act.put, List.setIfInBounds_toArray, List.set_cons_zero, List.set_cons_succ]); (refine' wpAnyH_take (i := 7) (v := _) rfl (by kernel_rfl) (by kernel_rfl) (by kernel_rfl) (fun _ _ _ h => h) (Or.inl ⟨by rfl, ?hy37⟩) (by assumption) ?rest37; (case hy37 => (intro w hSw; (try dsimp only at hSw); go_simp <;> with_reducible rfl)); simp only [List.getElem_toArray, List.getElem_cons_succ, List.getElem_cons_zero, Act.put, List.setIfInBounds_toArray, List.set_cons_zero, List.set_cons_succ]); (refine' wpAnyH_take (i := 8) (v := _) rfl (by kernel_rfl) (by kernel_rfl) (by kernel_rfl) (fun _ _ _ h => h) (Or.inl ⟨by rfl, ?hy38⟩) (by assumption) ?rest38; (case hy38 => (intro w hSw; (try dsimp only at hSw); go_simp <;> with_reducible rfl)); simp only [List.getElem_toArray, List.getElem_cons_succ, List.getElem_cons_zero, Act.put, List.setIfInBounds_toArray, List.set_cons_zero, List.set_cons_succ]); (refine' wpAnyH_take (i := 9) (v := _) rfl (by kernel_rfl) (by kernel_rfl) (by kernel_rfl) (fun _ _ _ h => h) (Or.inl ⟨by rfl, ?hy39⟩) (by assumption) ?rest39; (case hy39 => (intro w hSw; (try dsimp only at hSw); go_simp <;> with_reducible rfl)); simp only [List.getElem_toArray, List.getElem_cons_succ, List.getElem_cons_zero, Act.put, List.setIfInBounds_toArray, List.set_cons_zero, List.set_cons_succ]); (refine' wpAnyH_take (i := 10) (v := _) rfl (by kernel_rfl) (by kernel_rfl) (by kernel_rfl) (fun _ _ _ h => h) (Or.inl ⟨by rfl, ?hy40⟩) (by assumption) ?rest40; (case hy40 => (intro w hSw; (try dsimp only at hSw); go_simp <;> with_reducible rfl)); simp only [List.getElem_toArray, List.getElem_cons_succ, List.getElem_cons_zero, Act.put, List.setIfInBounds_toArray, List.set_cons_zero, List.set_cons_succ]); (refine' wpAnyH_take (i := 11) (v := _) rfl (by kernel_rfl) (by kernel_rfl) (by kernel_rfl) (fun _ _ _ h => h) (Or.inl ⟨by rfl, ?hy41⟩) (by assumption) ?rest41; (case hy41 => (intro w hSw; (try dsimp only at hSw); go_simp <;> with_reducible rfl)); simp only [List.getElem_toArray, List.getElem_cons_succ, List.getElem_cons_zero, Act.put, List.setIfInBounds_toArray, List.set_cons_zero, List.set_cons_succ]); (refine' wpAnyH_take (i := 12) (v := _) rfl (by kernel_rfl) (by kernel_rfl) (by kernel_rfl) (fun _ _ _ h => h) (Or.inl ⟨by rfl, ?hy42⟩) (by assumption) ?rest42; (case hy42 => (intro w hSw; (try dsimp only at hSw); go_simp <;> with_reducible rfl)); simp only [List.getElem_toArray, List.getElem_cons_succ, List.getElem_cons_zero, Act.put, List.setIfInBounds_toArray, List.set_cons_zero, List.set_cons_succ]); (refine' wpAnyH_take (i := 13) (v := _) rfl (by kernel_rfl) (by kernel_rfl) (by kernel_rfl) (fun _ _ _ h => h) (Or.inl ⟨by rfl, ?hy43⟩) (by assumption) ?rest43; (case hy43 => (intro w hSw; (try dsimp only at hSw); go_simp <;> with_reducible rfl)); simp only [List.getElem_toArray, List.getElem_cons_succ, List.getElem_cons_zero, Act.put, List.setIfInBounds_toArray, List.set_cons_zero, List.set_cons_succ]); (refine' wpAnyH_take (i := 14) (v := _) rfl (by kernel_rfl) (by kernel_rfl) (by kernel_rfl) (fun _ _ _ h => h) (Or.inl ⟨by rfl, ?hy44⟩) (by assumption) ?rest44; (case hy44 => (intro w hSw; (try dsimp only at hSw); go_simp <;> with_reducible rfl)); simp only [List.getElem_toArray, List.getElem_cons_succ, List.getElem_cons_zero, Act.put, List.setIfInBounds_toArray, List.set_cons_zero, List.set_cons_succ]))
          ((refine' wpAnyH_take (i := 15) (v := _) rfl (by kernel_rfl) (by kernel_rfl) (by kernel_rfl) (fun _ _ _ h => h) (Or.inr ⟨by rfl, rfl⟩) (by assumption) ?rest45; simp only [List.getElem_toArray, List.getElem_cons_succ, List.getElem_cons_zero, Act.put, List.setIfInBounds_toArray, List.set_cons_zero, List.set_cons_succ]); (refine' wpAnyH_take (i := 16) (v := _) rfl (by kernel_rfl) (by kernel_rfl) (by kernel_rfl) (fun _ _ _ h => h) (Or.inr ⟨by rfl, rfl⟩) (by assumption) ?rest46; simp only [List.getElem_toArray, List.getElem_cons_succ, List.getElem_cons_zero, Act.put, List.setIfInBounds_toArray, List.set_cons_zero, List.set_cons_succ]); (refine' wpAnyH_take (i := 17) (v := _) rfl (by kernel_rfl) (by kernel_rfl) (by kernel_rfl) (fun _ _ _ h => h) (Or.inr ⟨by rfl, rfl⟩) (by assumption) ?rest47; simp only [List.getElem_toArray, List.getElem_cons_succ, List.getElem_cons_zero, Act.put, List.setIfInBounds_toArray, List.set_cons_zero, List.set_cons_succ]); (refine' wpAnyH_take (i := 18) (v := _) rfl (by kernel_rfl) (by kernel_rfl) (by kernel_rfl) (fun _ _ _ h => h) (Or.inr ⟨by rfl, rfl⟩) (by assumption) ?rest48; simp only [List.getElem_toArray, List.getElem_cons_succ, List.getElem_cons_zero, Act.put, List.setIfInBounds_toArray, List.set_cons_zero, List.set_cons_succ]))
          ((refine' wpAnyH_take (i := 19) (v := _) rfl (by kernel_rfl) (by kernel_rfl) (by kernel_rfl) (fun _ _ _ h => h) (Or.inl ⟨by rfl, ?hy49⟩) (by assumption) ?rest49; (case hy49 => (intro w hSw; (try dsimp only at hSw); go_simp <;> with_reducible rfl)); simp only [List.getElem_toArray, List.getElem_cons_succ, List.getElem_cons_zero, Act.put, List.setIfInBounds_toArray, List.set_cons_zero, List.set_cons_succ]); (refine' wpAnyH_take (i := 20) (v := _) rfl (by kernel_rfl) (by kernel_rfl) (by kernel_rfl) (fun _ _ _ h => h) (Or.inl ⟨by rfl, ?hy50⟩) (by assumption) ?rest50; (case hy50 => (intro w hSw; (try dsimp only at hSw); go_simp <;> with_reducible rfl)); simp only [List.getElem_toArray, List.getElem_cons_succ, List.getElem_cons_zero, Act.put, List.setIfInBounds_toArray, List.set_cons_zero, List.set_cons_succ]); (refine' wpAnyH_take (i := 21) (v := _) rfl (by kernel_rfl) (by kernel_rfl) (by kernel_rfl) (fun _ _ _ h => h) (Or.inl ⟨by rfl, ?hy51⟩) (by assumption) ?rest51; (case hy51 => (intro w hSw; (try dsimp only at hSw); go_simp <;> with_reducible rfl)); simp only [List.getElem_toArray, List.getElem_cons_succ, List.getElem_cons_zero, Act.put, List.setIfInBounds_toArray, List.set_cons_zero, List.set_cons_succ]); (refine' wpAnyH_take (i := 22) (v := _) rfl (by kernel_rfl) (by kernel_rfl) (by kernel_rfl) (fun _ _ _ h => h) (Or.inl ⟨by rfl, ?hy52⟩) (by assumption) ?rest52; (case hy52 => (intro w hSw; (try dsimp only at hSw); go_simp <;> with_reducible rfl)); simp only [List.getElem_toArray, List.getElem_cons_succ, List.getElem_cons_zero, Act.put, List.setIfInBounds_toArray, List.set_cons_zero, List.set_cons_succ]); (refine' wpAnyH_take (i := 23) (v := _) rfl (by kernel_rfl) (by kernel_rfl) (by kernel_rfl) (fun _ _ _ h => h) (Or.inl ⟨by rfl, ?hy53⟩) (by assumption) ?rest53; (case hy53 => (intro w hSw; (try dsimp only at hSw); go_simp <;> with_reducible rfl)); simp only [List.getElem_toArray, List.getElem_cons_succ, List.getElem_cons_zero, Act.put, List.setIfInBounds_toArray, List.set_cons_zero, List.set_cons_succ]); (refine' wpAnyH_take (i := 24) (v := _) rfl (by kernel_rfl) (by kernel_rfl) (by kernel_rfl) (fun _ _ _ h => h) (Or.inl ⟨by rfl, ?hy54⟩) (by assumption) ?rest54; (case hy54 => (intro w hSw; (try dsimp only at hSw); go_simp <;> with_reducible rfl)); simp only [List.getElem_toArray, List.getElem_cons_succ, List.getElem_cons_zero, Act.put, List.setIfInBounds_toArray, List.set_cons_zero, List.set_cons_succ]); (refine' wpAnyH_take (i := 25) (v := _) rfl (by kernel_rfl) (by kernel_rfl) (by kernel_rfl) (fun _ _ _ h => h) (Or.inl ⟨by rfl, ?hy55⟩) (by assumption) ?rest55; (case hy55 => (intro w hSw; (try dsimp only at hSw); go_simp <;> with_reducible rfl)); simp only [List.getElem_toArray, List.getElem_cons_succ, List.getElem_cons_zero, Act.put, List.setIfInBounds_toArray, List.set_cons_zero, List.set_cons_succ]); (refine' wpAnyH_take (i := 26) (v := _) rfl (by kernel_rfl) (by kernel_rfl) (by kernel_rfl) (fun _ _ _ h => h) (Or.inl ⟨by rfl, ?hy56⟩) (by assumption) ?rest56; (case hy56 => (intro w hSw; (try dsimp only at hSw); go_simp <;> with_reducible rfl)); simp only [List.getElem_toArray, List.getElem_cons_succ, List.getElem_cons_zero, Act.put, List.setIfInBounds_toArray, List.set_cons_zero, List.set_cons_succ]); (refine' wpAnyH_take (i := 27) (v := _) rfl (by kernel_rfl) (by kernel_rfl) (by kernel_rfl) (fun _ _ _ h => h) (Or.inl ⟨by rfl, ?hy57⟩) (by assumption) ?rest57; (case hy57 => (intro w hSw; (try dsimp only at hSw); go_simp <;> with_reducible rfl)); simp only [List.getElem_toArray, List.getElem_cons_succ, List.getElem_cons_zero, Act.put, List.setIfInBounds_toArray, List.set_cons_zero, List.set_cons_succ]); (refine' wpAnyH_take (i := 28) (v := _) rfl (by kernel_rfl) (by kernel_rfl) (by kernel_rfl) (fun _ _ _ h => h) (Or.inl ⟨by rfl, ?hy58⟩) (by assumption) ?rest58; (case hy58 => (intro w hSw; (try dsimp only at hSw); go_simp <;> with_reducible rfl)); simp only [List.getElem_toArray, List.getElem_cons_succ, List.getElem_cons_zero, Act.put, List.setIfInBounds_toArray, List.set_cons_zero, List.set_cons_succ]); (refine' wpAnyH_take (i := 29) (v := _) rfl (by kernel_rfl) (by kernel_rfl) (by kernel_rfl) (fun _ _ _ h => h) (Or.inl ⟨by rfl, ?hy59⟩) (by assumption) ?rest59; (case hy59 => (intro w hSw; (try dsimp only at hSw); go_simp <;> with_reducible rfl)); simp only [List.getElem_toArray, List.getElem_cons_succ, List.getElem_cons_zero, Act.put, List.setIfInBounds_toArray, List.set_cons_zero, List.set_cons_succ]))
          refine wpAnyH_done (by kernel_rfl) ?_ _
          go_wp2_with fail
          go_ret
          exact ⟨rfl, C9.out.drew⟩
      · have hx' : (x == 0) = false := beq_eq_false_iff_ne.2 hx
        go_wp2_with fail
        go_ret
        exact ⟨rfl, C5.out⟩

theorem own : ownKnob Try.prog.godebug = none := by kernel_rfl
theorem laidOut : laidOutB Try.prog = true := by kernel_rfl
set_option maxRecDepth 100000 in
set_option linter.unusedVariables false in
theorem lifted (os : Os) (started : os.Started) (H : Type) (enc : TypeId × Value → H) :
    ReturnsInHanded {} Try.checked os 6 .any (Rows.recTurnedSpec.pre6 enc Try.prog Try.f6 Rows.recTurnedRow.domain false) (Rows.recTurnedSpec.post enc Try.prog Try.f6 false true false false) := by
  refine returnsInHanded_of_change_sized (C := Try.checked) own started (by kernel_rfl) Try.func6
    (ChangeSpec.witness6 (enc := enc) (C := Try.checked) false ⟨#[], #[.agg #[.int .i64 0, .int .i64 0, .int .i64 0, .int .i64 0, .int .i64 0, .int .i64 0, .string ⟨#[]⟩, .string ⟨#[]⟩, .string ⟨#[]⟩, .slice none 0 0], .int .u16 0, .int .u8 0], []⟩ 8 (by kernel_rfl) (by kernel_rfl) (by kernel_rfl) (by kernel_rfl)) ?_
  intro W base args ds gs before hval0 hW hcnd hsz0 _
  have hsz : (DataW.weightsEach Try.prog (Try.f6.params.toList ++ []) (ds ++ gs)).all (· ≤ reachBytes) = true := hsz0
  clear hsz0
  have hval : ∀ (j : Nat) t v, Try.f6.params[j]? = some t → args[j]? = some v → Value.okWide Try.prog W .any base t v := hval0
  have hW' := hW
  obtain ⟨p, q, hA0, hV, rfl, hfz, hnd⟩ := hW
  have hA : DataW.TrodAll enc Try.prog W 0 (fun _ => true) true Try.f6.params.toList args.toList ds p := hA0
  rw [Try.params6] at hA hval hsz
  obtain ⟨v0, vs0, d0, ds0, p0, q0, hargs, rfl, rfl, h0, r0'⟩ := trodAll_cons hA
  obtain ⟨v1, vs1, d1, ds1, p1, q1, rfl, rfl, rfl, h1, r1'⟩ := trodAll_cons r0'
  obtain ⟨v2, vs2, d2, ds2, p2, q2, rfl, rfl, rfl, h2, r2'⟩ := trodAll_cons r1'
  obtain ⟨rfl, rfl, rfl⟩ := trodAll_nil r2'
  obtain rfl : args = #[v0, v1, v2] := by cases args; simp_all
  obtain ⟨rfl, rfl⟩ := trodVars_none hV
  clear hA0 hval0
  have wt0 := fun n hn => (by simpa using List.all_eq_true.1 hsz n (DataW.weights_mem_each (j := 0) rfl rfl n hn) : n ≤ reachBytes)
  have wt1 := fun n hn => (by simpa using List.all_eq_true.1 hsz n (DataW.weights_mem_each (j := 1) rfl rfl n hn) : n ≤ reachBytes)
  have wt2 := fun n hn => (by simpa using List.all_eq_true.1 hsz n (DataW.weights_mem_each (j := 2) rfl rfl n hn) : n ≤ reachBytes)
  have hlt : ∀ x ∈ p0 ++ (p1 ++ (p2 ++ [])), x.block < W.heap.size := fun x hx => by have := hW'.lt x (by simpa using hx); simpa using this
  obtain ⟨y0, e0, r0⟩ := msg_arg (struct_shape Try.underlying33 (hval 0 33 v0 rfl rfl)) ((opens_msg).arg h0)
  subst e0
  obtain ⟨a1, e1, _, _, w1⟩ := open_int Try.underlying50 (hval 1 50 v1 rfl rfl) h1
  subst e1
  obtain ⟨a2, e2, _, _, w2⟩ := open_int Try.underlying5 (hval 2 5 v2 rfl rfl) h2
  subst e2
  refine (walk W y0 r0 a1 w1 a2 w2).mono fun e W' ⟨he, hg⟩ => ?_
  subst he
  refine ⟨_, rfl, _, _, _, [] ++ [], p0 ++ (p1 ++ (p2 ++ [])), [], hW', ?_, ?_, ?_, hg.frame _, fun h => by cases h⟩
  · exact trodAll_mk1 (shut_bool Try.underlying4 true)
  · exact trodAll_cons_mk (Below.trod laidOut (by kernel_rfl) (of_decide_eq_true (by kernel_rfl)) h0 hg (fun x hx => hlt x (by simp [hx]))) (trodAll_cons_mk (Below.trod laidOut (by kernel_rfl) (of_decide_eq_true (by kernel_rfl)) h1 hg (fun x hx => hlt x (by simp [hx]))) (trodAll_cons_mk (Below.trod laidOut (by kernel_rfl) (of_decide_eq_true (by kernel_rfl)) h2 hg (fun x hx => hlt x (by simp [hx]))) (trodAll_mk0)))
  · exact rfl

theorem over : Rows.recTurnedRow.holds Try.pinned (OpenSpec.ofChange Rows.recTurnedSpec) :=
  OpenClaim.holds_of_wide 6 Try.f6 rfl rfl rfl rfl rfl rfl rfl ⟨rfl, rfl, rfl, rfl, rfl⟩ rfl rfl rfl rfl rfl (by kernel_rfl) Try.func6 (by kernel_rfl)
    (of_decide_eq_true (by kernel_rfl)) (by unfold Func.isWrapper; first | (rw [if_pos (by decide +kernel)]; kernel_rfl) | (rw [if_neg (by decide +kernel)]; exact ⟨rfl, rfl⟩))
    (fun os started H enc _ => lifted os started H enc)

theorem proved : Rows.RecTurnedSaid := over
#print axioms proved
end Go.Proofs.Ytofffmnkoelifaa.rturn
