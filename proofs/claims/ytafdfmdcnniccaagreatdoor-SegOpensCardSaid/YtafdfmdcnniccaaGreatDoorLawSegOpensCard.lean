/- SegOpens: of any files of a head the row is that of those that follow one another; all others of that head are gone, and no other file. The card is tied. No condition. -/
import Derived.Test.YtafdfmdcnniccaaGreatDoorRows
import Derived.WalkKit
import Derived.ProofKit
import Derived.OpenShut
import Derived.Handy
import Derived.Deep.LoopGhost
import Derived.Lib.Hide
import Derived.Lib.Strings
import Derived.SizedLaws
import Derived.Maps.Own
import Derived.Maps.OwnOps
import Derived.Maps.OwnSet
import Derived.Maps.RangeWalk
import Derived.Deep.QuietTactic
import Derived.BigQuiet
import Derived.Deep.RegionHeld3
import Derived.Lib.ConvBytes
import Derived.Lib.AppendZeros
import Derived.Lib.AppendZerosOnto
import Derived.Lib.LazyBuf
import Derived.Shelf.Abstract
import Derived.LaidEql
import Derived.Lib.SliceRun
import Derived.StillTailTactics
import Derived.Deep.Slices
import Derived.Lib.Atoi
import Derived.Lib.ItoaNum
import Derived.Lib.SlTrimSet
import Derived.Shelf.SlIter.Nil
import Derived.Ground.GgzProg
import Derived.Shelf.SortM.Plain
import Derived.Shelf.SortM.SortNone
import Derived.Ground.SlgmProg
import Derived.Shelf.SlicesE.DeleteFunc
import Derived.Ground.SlgfProg
import Derived.Test.YtafdfmdcnniccaaGreatDoorProg
import Derived.Shelf.Strings.Builder1
import Derived.Shelf.Strings.Builder2
import Derived.Shelf.Strings.Trim
import Derived.Shelf.Small.Utf8
import Derived.Shelf.Small.Bits
import Derived.Shelf.Small.Strs
import Derived.Shelf.Small.Wraps
import Derived.Shelf.Strings.BuilderF
import Derived.Shelf.Strings.BuilderK
import Derived.Shelf.Strings.Builder2Cap
import Derived.Shelf.Strconv.Atoi
import Derived.Shelf.Strconv.Itoa0
import Derived.Shelf.Strconv.Itoa1
import Derived.Shelf.LaysM
import Derived.Shelf.Strconv.Itoa2
import Derived.Shelf.Strconv.Itoa3
import Derived.Shelf.Strings.Search1
import Derived.Shelf.Strings.Prefix
import Derived.Shelf.Strings.Runes
import Derived.Shelf.Strings.AsciiSet
import Derived.Shelf.Bits.Mul64
import Derived.Shelf.Strings.Repeat
import Derived.Shelf.Unicode.DecodeSlow
import Derived.Shelf.Strings.BuilderCap
import Derived.Ground.Names2Prog
import Derived.Shelf.Slices.Clone
import Derived.Ground.SlgnProg
import Derived.Shelf.SlicesE.Clone
import Derived.Shelf.SlicesE.IndexFunc
import Derived.Shelf.Strings.SlTrimAscii
import Derived.Lib.Repeat
import Derived.Lib.LaidTab
import Derived.Deep.RegionLaw
import Derived.Deep.RegionWith
import Derived.Lib.AtoiErrMem
import Derived.Test.YtafdfmdcnniccaaGreatDoorTie
import Derived.Test.YtafdfmdcnniccaaGreatDoorCards
import Derived.LaidMore
import Derived.Lay
import Derived.SevenTiedAt
import Derived.HandedShaped
import Derived.Stop.Joined
import Derived.Shelf.Vars
import Derived.Laws.MakeOwn
import Derived.Stop.LaidErr
import Derived.Outline
import Derived.Test.YtafdfmdcnniccaaGreatDoorPk24
namespace Go.Proofs.YtafdfmdcnniccaaGreatDoor.sopens
open Go.ChangeShapes Go.WideShapes Go.ChangeAt Go.RowKit Go.ChangeMaps
open Go.Proofs.YtafdfmdcnniccaaGreatDoor.dk Go.Proofs.YtafdfmdcnniccaaGreatDoor.sg

theorem infoByte : (Tryz.prog.info? 5).map (fun i => (i.zero, i.size, i.bytes)) = some (some (.int .u8 0), 1, 1) := by kernel_rfl
def zeros (n : Nat) : ByteArray := ⟨(List.replicate n (0 : UInt8)).toArray⟩
theorem zeros_size (n : Nat) : (zeros n).size = n := by show (List.replicate n (0 : UInt8)).toArray.size = n; simp
theorem made_zeros (w : World) (n : Nat) (hn : n ≤ 1000 := by omega) : (Instr.makeSlice 23 (.int .i64 (n : Int)) (.int .i64 (n : Int))).run Tryz.prog w = .ok (.slice (some ⟨w.heap.size, 0, none⟩) n n) (w.alloc (.cells (madeCells #[Value.int .u8 0] n) 5)) ∧
    (convert 23 9 (.slice (some ⟨w.heap.size, 0, none⟩) n n)).run Tryz.prog (w.alloc (.cells (madeCells #[Value.int .u8 0] n) 5)) = .ok (.string (zeros n)) (w.alloc (.cells (madeCells #[Value.int .u8 0] n) 5)) := by
  obtain ⟨i0, hi, hz0, hz1, hz2⟩ := info_parts infoByte
  have hmk := run_make (P := Tryz.prog) w 23 5 i0 _ Tryz.underlying23 hi hz0 .i64 .i64 n n (by omega) (Int.le_refl _) (by rw [hz2]; omega) (by omega)
  simp only [hz1, Int.toNat_natCast, Nat.mul_one] at hmk
  have hback := conv_string (P := Tryz.prog) _ 23 9 5 Tryz.underlying23 Tryz.underlying5 Tryz.underlying9 (oc.made_bytes w n) n
  rw [List.length_replicate] at hback
  exact ⟨hmk, hback⟩
theorem made_zeros0 (w : World) : (Instr.makeSlice 23 (.int .i64 0) (.int .i64 0)).run Tryz.prog w = .ok (.slice (some ⟨w.heap.size, 0, none⟩) 0 0) (w.alloc (.cells (madeCells #[Value.int .u8 0] 0) 5)) ∧
    (convert 23 9 (.slice (some ⟨w.heap.size, 0, none⟩) 0 0)).run Tryz.prog (w.alloc (.cells (madeCells #[Value.int .u8 0] 0) 5)) = .ok (.string (zeros 0)) (w.alloc (.cells (madeCells #[Value.int .u8 0] 0) 5)) := made_zeros w 0 (by decide)
theorem map_len {P : Program} {w : World} {t k e : TypeId} {b : Nat} {d : TypeDesc} {m : List (Value × Value)} (h : MapIs w b d m) (ht : P.underlying t = some (.map k e)) (ty : TypeId) : (Builtin.len_ #[t] ty #[.map (some b)]).run P w = .ok (.int .i64 m.length) w := by
  obtain ⟨es, c, hb, hs, rfl, hk⟩ := h
  simp [Builtin.len_, run_underlying ht, MapKept.run_getObj_map hb, goInt, Result.andThen]
theorem encH_len (L : List (Nat × Nat)) : (encH L).length = L.length := by unfold encH; rw [List.length_map]
theorem place_cases (s : ByteArray) : (placeOf hN s = none ∧ placeI hN s = (0, false)) ∨ (∃ j : Nat, placeI hN s = ((j : Int), true)) := by
  unfold placeI
  cases h : placeOf hN s with
  | none => exact .inl ⟨rfl, rfl⟩
  | some j => exact .inr ⟨j, rfl⟩
theorem encH_split {left : List (Nat × Nat)} {l1 l2 : List (Value × Value)} {x1 x2 : Value} (h : encH left = l1 ++ (x1, x2) :: l2) : ∃ L1 x L2, left = L1 ++ x :: L2 ∧ l1 = encH L1 ∧ x1 = .int .i64 (x.1 : Int) ∧ x2 = .int .i64 (x.2 : Int) ∧ l2 = encH L2 := by
  obtain ⟨L1, L', hL, h1, h2⟩ := List.map_eq_append_iff.1 h
  obtain ⟨g, L2, hL', h3, h4⟩ := List.map_eq_cons_iff.1 h2
  simp only [Prod.mk.injEq] at h3
  exact ⟨L1, g, L2, by rw [hL, hL'], h1.symm, h3.1.symm, h3.2.symm, h4.symm⟩
theorem encH_append (a b : List (Nat × Nat)) : encH (a ++ b) = encH a ++ encH b := by unfold encH; rw [List.map_append]
theorem tmod_nat (x : Nat) : (x : Int).tmod 16 = ((x % 16 : Nat) : Int) := rfl
theorem Oe.keepR {W w w' : World} {p r mb N st cnt fin rb : Nat} {L : List (Nat × Nat)} (h : Oe W p r mb N L st cnt fin w) (h0 : Calm w w') : Oe W p r mb N L st cnt fin w' := h.drew h0
theorem Fit.bad {L : List (Nat × Nat)} {st cnt fin : Nat} (h : Fit (fL L) 16 st cnt fin) (hn : (L.map (·.1)).Nodup) (hno : ∀ x ∈ L, x.1 % 16 = 0 → 16 < x.2) : st = 0 ∧ cnt = 0 ∧ fin = 0 := by
  refine h.one ⟨fun _ => ⟨rfl, rfl, fun k n e hm => ?_⟩, rfl, fun h => absurd h (Nat.lt_irrefl 0), fun i hi => absurd hi (Nat.not_lt_zero _), fun h => absurd h (Nat.lt_irrefl 0)⟩
  exact hno _ ((fL_mem hn).1 e) hm
/-- Of a row that begins at the least place: how far it goes. -/
theorem Fit.run {L : List (Nat × Nat)} {st cnt fin k0 i n : Nat} (h : Fit (fL L) 16 st cnt fin) (hm : k0 % 16 = 0) (hl : ∀ k n, fL L k = some n → k % 16 = 0 → n ≤ 16 → k0 ≤ k) (hf : ∀ j, j < i → fL L (k0 + j * 16) = some 16) (hn : fL L (k0 + i * 16) = some n) (hn16 : n ≤ 16) (he : n < 16 ∨ ∀ q, fL L (k0 + (i + 1) * 16) = some q → 16 < q) : st = k0 ∧ cnt = i + 1 ∧ fin = k0 + i * 16 + n :=
  h.one ⟨fun e => (by cases e), hm, fun _ => hl, fun j hj => hf j (by omega), fun _ => ⟨n, by rw [Nat.add_sub_cancel]; exact hn, hn16, by rw [Nat.add_sub_cancel], he⟩⟩

set_option maxRecDepth 100000 in
set_option maxHeartbeats 16000000 in
theorem walk (W : World) (ht : Tab W) (v0 : Value) (l : List Int) (r0 : RowsAt (IntR .i64) 1 W v0 l) (v1 : Value) (g : List Int) (r1 : RowsAt (IntR .u8) 1 W v1 g) (v2 : Value) (o : List ByteArray) (r2 : StrsAt W v2 o) (z2 : ∀ s ∈ o, s.size ≤ reachBytes) (n2 : o.length ≤ maxLen) :
    Calls Tryz.prog 3 #[v0, v1, v2] W fun e W' => e = .returned (.bool true) ∧ Calm W W' := by
  obtain ⟨la, lcap, rfl, hll, hle⟩ := r0.nums
  obtain ⟨ga, gcap, rfl, hgl, hge⟩ := r1.nums
  obtain ⟨oa, ocap, rfl, hoe⟩ := r2.uni
  have Hle := box hle
  have Hge := box hge
  have Hoe := box r2
  have HT := box ht
  have haw := box (awake_any W ht)
  unfold maxLen at hll hgl n2
  clear ht r0 r1 r2 hle hge hoe z2
  go_enter Tryz.func3, Tryz.ntmps3
  go_wp2_with fail
  refine haw.out.mono ?_
  rintro e w1 ⟨rfl, hca⟩
  have O1 := box hca
  clear hca haw
  by_cases h20 : 20 < l.length
  · have t1 : decide ((20 : Int) < (l.length : Int)) = true := decide_eq_true (by omega)
    go_wp2_with fail
    go_ret
    exact ⟨rfl, O1.out⟩
  have t1 : decide ((20 : Int) < (l.length : Int)) = false := decide_eq_false (by omega)
  by_cases h21 : 20 < o.length
  · have t2 : decide ((20 : Int) < (o.length : Int)) = true := decide_eq_true (by omega)
    go_wp2_with fail
    go_ret
    exact ⟨rfl, O1.out⟩
  have t2 : decide ((20 : Int) < (o.length : Int)) = false := decide_eq_false (by omega)
  have hl20 : l.length ≤ 20 := by omega
  have ho20 : o.length ≤ 20 := by omega
  clear h20 h21
  go_wp2_with fail
  refine (New_ok _ 65536).mono ?_
  rintro e w2 ⟨p, F2, rfl, hd2, hc2, hF2⟩
  have hmm := @run_makeMap Tryz.prog
  obtain ⟨mb, hmb⟩ : ∃ mb, w2.heap.size = mb := ⟨_, rfl⟩
  have HM := MapIs.made w2 (.int .i64)
  rw [hmb] at HM
  have HS := box (show Ost W p mb 0 0 [] [] (w2.alloc (.map #[] 0)) from ⟨⟨_, F2, hd2.calm ((Calm.refl w2).alloc _), Able.new 65536 (by decide), HasD.new 65536, fun b hb => Nat.le_trans O1.out.size (hF2 b hb), fun hf => by have := hd2.foot_lt _ hf; omega⟩, HM, (O1.out.trans hc2).alloc _, by have := O1.out.size; have := hc2.size; omega⟩)
  clear hd2 hc2 hF2 O1 HM
  go_wp2_with fail
  clear hmb hmm
  go_loopw [43] (fun iv wr => ∃ (k : Nat) (L : List (Nat × Nat)), k ≤ l.length ∧ iv = .int .i64 (k : Int) ∧ L.length ≤ k ∧ Box (Ost W p mb k (21 * k) L L wr)) (fun iv _ => l.length - (intOf iv).toNat)
  case atStart => exact ⟨0, [], Nat.zero_le _, rfl, Nat.le_refl _, HS⟩
  case round =>
    clear HS
    obtain ⟨k, L, hk, rfl, hLk, HS⟩ := hrel
    obtain ⟨wo, hwo⟩ : ∃ wo : World, wo = wr := ⟨_, rfl⟩
    subst hwo
    by_cases hlt : k < l.length
    · obtain ⟨lb, loff, rfl, hlb, hc0, hz1, hz2⟩ := Hle.out k hlt
      have d0 := (HS.out.calm.cell (p := ⟨lb, loff + k, none⟩) hlb).trans hc0
      have hlbo := Nat.lt_of_lt_of_le hlb HS.out.calm.size
      obtain ⟨z, hz⟩ : ∃ z, l[k] = z := ⟨_, rfl⟩
      rw [hz] at d0
      clear hz hz1 hz2 hc0
      by_cases hzr : 0 ≤ z ∧ z ≤ 99999999
      · obtain ⟨j, rfl⟩ : ∃ j : Nat, z = j := ⟨z.toNat, by omega⟩
        have hj : j < 100000000 := by omega
        have hname := box (Name_in hN j wo (by decide) hj (tab_calm HT.out HS.out.calm))
        obtain ⟨nm, hnm⟩ : ∃ nm, nameB hN j = nm := ⟨_, rfl⟩
        rw [hnm] at hname
        clear hzr
        go_wp2_with fail
        refine hname.out.mono ?_
        rintro e w4 ⟨rfl, hc4⟩
        have HS4 := box (HS.out.drew hc4)
        have hcr := box (HS4.out.create hj (by omega) (by omega))
        rw [hnm] at hcr
        clear hc4 hname HS d0
        by_cases hg : k < g.length
        · obtain ⟨gb, goff, rfl, hgb, hgc, hg1, hg2⟩ := Hge.out k hg
          have d1 := (HS4.out.calm.cell (p := ⟨gb, goff + k, none⟩) hgb).trans hgc
          have hgbo := Nat.lt_of_lt_of_le hgb HS4.out.calm.size
          obtain ⟨x, hx, hx256⟩ : ∃ x : Nat, g[k] = (x : Int) ∧ x < 256 := by
            simp [IntKind.min, IntKind.max, IntKind.bits, IntKind.signed] at hg1 hg2
            exact ⟨g[k].toNat, by omega, by omega⟩
          rw [hx] at d1
          obtain ⟨q, hq⟩ : ∃ q, x % 20 = q := ⟨_, rfl⟩
          have hq20 : q < 20 := by omega
          have hrem : (x : Int).tmod 20 = (q : Int) := by rw [← hq]; rfl
          clear hgc hg1 hg2 hx hq HS4
          go_wp2_with fail
          refine hcr.out.mono ?_
          rintro e w5 (⟨hin, rfl, hz⟩ | ⟨hin, rfl, hz⟩)
          · have HZ := box hz
            clear hz hcr
            go_wp2_with fail
            go_roundw
            case rel => exact ⟨k + 1, L, by omega, by go_num, by omega, box (HZ.out.mono (by omega) (by omega))⟩
            case measure => simp [intOf]; omega
          · obtain ⟨mk1, mk2⟩ := made_zeros w5 q
            have hwr := box ((hz.drew ((Calm.refl w5).alloc (.cells (madeCells #[Value.int .u8 0] q) 5))).write (by omega) (by omega) (zeros q) (by rw [zeros_size]; omega))
            rw [hnm, zeros_size] at hwr
            obtain ⟨zs, hzs⟩ : ∃ zs, zeros q = zs := ⟨_, rfl⟩
            rw [hzs] at hwr mk2
            clear hz hcr hzs
            go_wp2_with fail
            refine hwr.out.mono ?_
            rintro e w6 ⟨⟨c6, rfl⟩, hz⟩
            obtain ⟨ob, hset, hz7⟩ := hz.set
            have HZ := box hz7
            clear hz hwr mk1 mk2 hz7
            go_wp2_with fail
            go_roundw
            case rel => exact ⟨k + 1, _, by omega, by go_num, by rw [List.length_append]; simp only [List.length_cons, List.length_nil]; omega, box (HZ.out.mono (by omega) (by omega))⟩
            case measure => simp [intOf]; omega
        · clear HS4
          go_wp2_with fail
          refine hcr.out.mono ?_
          rintro e w5 (⟨hin, rfl, hz⟩ | ⟨hin, rfl, hz⟩)
          · have HZ := box hz
            clear hz hcr
            go_wp2_with fail
            go_roundw
            case rel => exact ⟨k + 1, L, by omega, by go_num, by omega, box (HZ.out.mono (by omega) (by omega))⟩
            case measure => simp [intOf]; omega
          · obtain ⟨mk1, mk2⟩ := made_zeros0 w5
            have hwr := box ((hz.drew ((Calm.refl w5).alloc (.cells (madeCells #[Value.int .u8 0] 0) 5))).write (by omega) (by omega) (zeros 0) (by rw [zeros_size]; omega))
            rw [hnm, zeros_size] at hwr
            obtain ⟨zs, hzs⟩ : ∃ zs, zeros 0 = zs := ⟨_, rfl⟩
            rw [hzs] at hwr mk2
            clear hz hcr hzs
            go_wp2_with fail
            refine hwr.out.mono ?_
            rintro e w6 ⟨⟨c6, rfl⟩, hz⟩
            obtain ⟨ob, hset1, hz7⟩ := hz.set
            have hset : (Instr.mapUpdate 28 (.map (some mb)) (.int .i64 (j : Int)) (.int .i64 0)).run Tryz.prog w6 = .ok () (setBlock w6 mb ob) := hset1
            clear hset1
            have HZ := box hz7
            clear hz hwr mk1 mk2 hz7
            go_wp2_with fail
            go_roundw
            case rel => exact ⟨k + 1, _, by omega, by go_num, by rw [List.length_append]; simp only [List.length_cons, List.length_nil]; omega, box (HZ.out.mono (by omega) (by omega))⟩
            case measure => simp [intOf]; omega
      · have hname := box (Name_out hN z wo (by omega))
        clear hzr
        go_wp2_with fail
        refine hname.out.mono ?_
        rintro e w4 ⟨rfl, hc4⟩
        have HS4 := box (HS.out.drew hc4)
        clear hc4 hname HS d0
        go_wp2_with fail
        go_roundw
        case rel => exact ⟨k + 1, L, by omega, by go_num, by omega, box (HS4.out.mono (by omega) (by omega))⟩
        case measure => simp [intOf]; omega
    · obtain rfl : k = l.length := by omega
      have hL20 : L.length ≤ 20 := by omega
      clear Hle Hge hlt hLk
      go_wp2_with fail
      go_loopw [81] (fun iv wr => ∃ (k : Nat), k ≤ o.length ∧ iv = .int .i64 (k : Int) ∧ Box (Ost W p mb 20 (420 + k) L L wr)) (fun iv _ => o.length - (intOf iv).toNat)
      case atStart => exact ⟨0, Nat.zero_le _, rfl, box (HS.out.mono (by omega) (by omega))⟩
      case round =>
        clear HS
        obtain ⟨k, hk, rfl, HS⟩ := hrel
        obtain ⟨wo, hwo⟩ : ∃ wo : World, wo = wr := ⟨_, rfl⟩
        subst hwo
        by_cases hlt : k < o.length
        · obtain ⟨_, _, he, hel⟩ := StrsAt.uni (Hoe.out.calm HS.out.calm)
          cases he
          obtain ⟨lb, loff, rfl, hlb, d0⟩ := hel k hlt
          obtain ⟨s, hs⟩ : ∃ s, o.getD k ByteArray.empty = s := ⟨_, rfl⟩
          rw [hs] at d0
          clear hel hs
          by_cases h30 : 30 < s.size
          · have t4 : decide ((30 : Int) < (s.size : Int)) = true := decide_eq_true (by omega)
            go_wp2_with fail
            go_ret
            exact ⟨rfl, HS.out.calm⟩
          have t4 : decide ((30 : Int) < (s.size : Int)) = false := decide_eq_false (by omega)
          have hpl := box (Place_any hN s wo (by omega))
          rcases place_cases s with ⟨hp1, hp2⟩ | ⟨j, hp2⟩
          · rw [hp2] at hpl
            go_wp2_with fail
            refine hpl.out.mono ?_
            rintro e w4 ⟨rfl, hc4⟩
            have hcr := box ((HS.out.drew hc4).another s hp1 (by omega))
            clear hc4 hpl HS d0
            go_wp2_with fail
            refine hcr.out.mono ?_
            rintro e w5 ⟨⟨c, rfl⟩, hz⟩
            have HZ := box hz
            clear hz hcr
            go_wp2_with fail
            go_roundw
            case rel => exact ⟨k + 1, by omega, by go_num, box (HZ.out.mono (by omega) (by omega))⟩
            case measure => simp [intOf]; omega
          · rw [hp2] at hpl
            go_wp2_with fail
            refine hpl.out.mono ?_
            rintro e w4 ⟨rfl, hc4⟩
            have HZ := box (HS.out.drew hc4)
            clear hc4 hpl HS d0
            go_wp2_with fail
            go_roundw
            case rel => exact ⟨k + 1, by omega, by go_num, box (HZ.out.mono (by omega) (by omega))⟩
            case measure => simp [intOf]; omega
        · have hli := box (HS.out.list (by omega))
          clear HS Hoe
          go_wp2_with fail
          refine hli.out.mono ?_
          rintro e w4 ⟨N, na, nc, rfl, hN1, hfx⟩
          have hop := box (hfx.open HT.out (by omega) (by omega))
          clear hfx hli
          go_wp2_with fail
          refine hop.out.mono ?_
          rintro e w5 ⟨r, st, cnt, fin, rfl, hoe⟩
          have HO := box hoe
          clear hoe hop
          go_wp2_with (at_range; refine wpList_range_list rfl _ rfl Tryz.underlying28 rfl HO.out.map ?_; intro w0 hr0 hc0 hs0)
          go_frame
          go_loopw [21] (fun bv wr => ∃ (left : List (Nat × Nat)) (b : Int), bv = .int .i64 b ∧ RangeIs wr mb w5.heap.size (.int .i64) (encH L) (encH left) ∧ Box (BeginIs L left b) ∧ Calm w5 wr) (fun _ wr => wr.rangeLeft mb w5.heap.size)
          case atStart => exact ⟨L, -1, rfl, hr0, box (BeginIs.new L), hc0⟩
          case round =>
            clear hr0 hc0 hs0
            obtain ⟨left, b, rfl, hr, HB, hcalm⟩ := hrel
            obtain ⟨wo, hwo⟩ : ∃ wo : World, wo = wr := ⟨_, rfl⟩
            subst hwo
            have Hr := box hr
            clear hr
            go_wp2_with (at_next; refine wpList_next_list rfl _ rfl rfl Hr.out ?_ ?_)
            case refine_1 =>
              intro hnil
              have hl0 : left = [] := by unfold encH at hnil; simpa using hnil
              have hB := HB.out
              rw [hl0] at hB
              obtain ⟨wp, hwp⟩ : ∃ wp : World, wp = wo := ⟨_, rfl⟩
              subst hwp
              have HOp := box (HO.out.drew hcalm)
              have HTOO := box HOp.out.few
              clear hnil hl0 HB Hr HO hcalm
              rcases hB.2 with ⟨hb, hno⟩ | ⟨⟨k0, n0⟩, hx0, g1, g2, hb, hmin⟩
              · subst hb
                obtain ⟨f0, f1, f2⟩ := Fit.bad HOp.out.fit HOp.out.nodup (fun x hx => hno x hx (by simp))
                have f3 : (st : Int) = 0 := by omega
                have f4 : (fin : Int) = 0 := by omega
                have hmx : max (-1 : Int) 0 = 0 := by decide
                clear f0 f2 hB hno HTOO
                go_wp2_with fail
                go_loopw [24, 25, 26] (fun sv ev av wr => sv = .int .i64 0 ∧ ev = .int .i64 0 ∧ av = .int .i64 (-1) ∧ Calm wp wr) (fun _ _ _ _ => 0)
                case atStart => exact ⟨rfl, rfl, rfl, .refl _⟩
                case round =>
                  obtain ⟨rfl, rfl, rfl, hcw⟩ := hrel
                  obtain ⟨wo, hwo⟩ : ∃ wo : World, wo = wr := ⟨_, rfl⟩
                  subst hwo
                  have HOe := box (HOp.out.drew hcw)
                  have hcnt := box f1
                  clear hcw f1
                  go_wp2_with fail
                  refine HOe.out.begin.mono ?_
                  rintro e wu ⟨rfl, rfl⟩
                  go_wp2_with fail
                  refine HOe.out.end_.mono ?_
                  rintro e wu ⟨rfl, rfl⟩
                  go_wp2_with fail
                  refine HOe.out.list.mono ?_
                  rintro e w9 ⟨K, ka, kc, rfl, hK1, hK2, hc9⟩
                  have hml := fun ty => map_len (P := Tryz.prog) (HOe.out.map.calm hc9) Tryz.underlying28 ty
                  rw [encH_len] at hml
                  have HC9 := box (HOe.out.owns.trans hc9)
                  have e4 : (K : Int) = (N : Int) - (L.length : Int) + (0) := by have := hcnt.out; omega
                  clear hc9 HOe hK2
                  go_wp2_with fail
                  go_ret
                  exact ⟨rfl, HC9.out⟩
              · subst hb
                have hk0 : fL L k0 = some n0 := (fL_mem HOp.out.nodup).2 hx0
                have hmin2 : ∀ k n, fL L k = some n → k % 16 = 0 → n ≤ 16 → k0 ≤ k := fun k n e h1 h2 => hmin (k, n) ((fL_mem HOp.out.nodup).1 e) (by simp) h1 h2
                clear hB hmin HTOO
                go_wp2_with fail
                go_loopw [24, 25, 26] (fun sv ev av wr => ∃ (i en a : Nat), sv = .int .i64 (i : Int) ∧ ev = .int .i64 (en : Int) ∧ av = .int .i64 (a : Int) ∧ Box (a = k0 + i * 16 ∧ (0 < i → en = k0 + i * 16) ∧ (i = 0 → en = 0) ∧ (∀ j, j < i → fL L (k0 + j * 16) = some 16) ∧ i ≤ 6250001) ∧ Calm wp wr) (fun sv _ _ _ => 10000000 - (intOf sv).toNat)
                case atStart => exact ⟨0, 0, k0, rfl, rfl, rfl, box ⟨by omega, fun h => absurd h (Nat.lt_irrefl 0), fun _ => rfl, fun j hj => absurd hj (Nat.not_lt_zero _), by decide⟩, .refl _⟩
                case round =>
                  obtain ⟨i, en, a, rfl, rfl, rfl, hful, hcw⟩ := hrel
                  obtain ⟨wo, hwo⟩ : ∃ wo : World, wo = wr := ⟨_, rfl⟩
                  subst hwo
                  have HOe := box (HOp.out.drew hcw)
                  have ha8 : a ≤ 100000016 ∧ i ≤ 6250001 ∧ en ≤ 100000016 := by
                    obtain ⟨q1, q2, q3, q4, q5⟩ := hful.out
                    by_cases hi0 : 0 < i
                    · have := q4 (i - 1) (by omega)
                      have := (HOe.out.lens _ ((fL_mem HOe.out.nodup).1 this)).1
                      simp only at this
                      have := q2 hi0
                      omega
                    · have := (HOe.out.lens _ hx0).1
                      simp only at this
                      have := q3 (by omega)
                      omega
                  obtain ⟨ha1, ha2, ha3⟩ := ha8
                  have t9 : decide (0 ≤ (a : Int)) = true := decide_eq_true (by omega)
                  cases hf : fL L a with
                  | none =>
                    have hmiss := HOp.out.miss hf
                    have hi0 : 0 < i := by
                      by_cases h0 : 0 < i
                      · exact h0
                      · have := hful.out.1
                        rw [show i = 0 by omega, Nat.zero_mul, Nat.add_zero] at this
                        rw [this, hk0] at hf; cases hf
                    have hnx : ∀ q, fL L a = some q → 16 < q := fun q e => by rw [hf] at e; cases e
                    have hm2 := hmiss wo hcw
                    clear hf hmiss
                    obtain ⟨e1, e2, e3⟩ := Fit.run HOe.out.fit g1 hmin2 (i := i - 1) (n := 16) (fun j hj => hful.out.2.2.2.1 j (by omega)) (hful.out.2.2.2.1 (i - 1) (by omega)) (by decide) (.inr (by rw [show i - 1 + 1 = i by omega, ← hful.out.1]; exact hnx))
                    have hen : en = k0 + (i - 1) * 16 + 16 := by rw [hful.out.2.1 hi0]; omega
                    have f1 : (st : Int) = (k0 : Int) := by omega
                    have f2 : (fin : Int) = (en : Int) := by omega
                    clear e1 hen hful hnx
                    go_wp2_with fail
                    refine HOe.out.begin.mono ?_
                    rintro e wu ⟨rfl, rfl⟩
                    go_wp2_with fail
                    refine HOe.out.end_.mono ?_
                    rintro e wu ⟨rfl, rfl⟩
                    go_wp2_with fail
                    refine HOe.out.list.mono ?_
                    rintro e w9 ⟨K, ka, kc, rfl, hK1, hK2, hc9⟩
                    have hml := fun ty => map_len (P := Tryz.prog) (HOe.out.map.calm hc9) Tryz.underlying28 ty
                    rw [encH_len] at hml
                    have HC9 := box (HOe.out.owns.trans hc9)
                    have e4 : (K : Int) = (N : Int) - (L.length : Int) + ((i : Int)) := by omega
                    clear hc9 HOe hK2
                    go_wp2_with fail
                    go_ret
                    exact ⟨rfl, HC9.out⟩
                  | some n =>
                    have hm2 := HOp.out.hit hf wo hcw
                    by_cases hn16 : 16 < n
                    · have u5 : decide ((16 : Int) < (n : Int)) = true := decide_eq_true (by omega)
                      have hi0 : 0 < i := by
                        by_cases h0 : 0 < i
                        · exact h0
                        · have := hful.out.1
                          rw [show i = 0 by omega, Nat.zero_mul, Nat.add_zero] at this
                          rw [this, hk0] at hf
                          cases hf; omega
                      have hnx : ∀ q, fL L a = some q → 16 < q := fun q e => by rw [hf] at e; cases e; exact hn16
                      clear hf
                      obtain ⟨e1, e2, e3⟩ := Fit.run HOe.out.fit g1 hmin2 (i := i - 1) (n := 16) (fun j hj => hful.out.2.2.2.1 j (by omega)) (hful.out.2.2.2.1 (i - 1) (by omega)) (by decide) (.inr (by rw [show i - 1 + 1 = i by omega, ← hful.out.1]; exact hnx))
                      have hen : en = k0 + (i - 1) * 16 + 16 := by rw [hful.out.2.1 hi0]; omega
                      have f1 : (st : Int) = (k0 : Int) := by omega
                      have f2 : (fin : Int) = (en : Int) := by omega
                      clear e1 hen hful hnx
                      go_wp2_with fail
                      refine HOe.out.begin.mono ?_
                      rintro e wu ⟨rfl, rfl⟩
                      go_wp2_with fail
                      refine HOe.out.end_.mono ?_
                      rintro e wu ⟨rfl, rfl⟩
                      go_wp2_with fail
                      refine HOe.out.list.mono ?_
                      rintro e w9 ⟨K, ka, kc, rfl, hK1, hK2, hc9⟩
                      have hml := fun ty => map_len (P := Tryz.prog) (HOe.out.map.calm hc9) Tryz.underlying28 ty
                      rw [encH_len] at hml
                      have HC9 := box (HOe.out.owns.trans hc9)
                      have e4 : (K : Int) = (N : Int) - (L.length : Int) + ((i : Int)) := by omega
                      clear hc9 HOe hK2
                      go_wp2_with fail
                      go_ret
                      exact ⟨rfl, HC9.out⟩
                    · have u5 : decide ((16 : Int) < (n : Int)) = false := decide_eq_false (by omega)
                      by_cases hn : n < 16
                      · have u6 : decide ((n : Int) < 16) = true := decide_eq_true (by omega)
                        obtain ⟨e1, e2, e3⟩ := Fit.run HOe.out.fit g1 hmin2 (i := i) (n := n) (fun j hj => hful.out.2.2.2.1 j hj) (by rw [← hful.out.1]; exact hf) (by omega) (.inl hn)
                        have f1 : (st : Int) = (k0 : Int) := by omega
                        have f2 : (fin : Int) = (a : Int) + (n : Int) := by have := hful.out.1; omega
                        clear e1 hful hf
                        go_wp2_with fail
                        refine HOe.out.begin.mono ?_
                        rintro e wu ⟨rfl, rfl⟩
                        go_wp2_with fail
                        refine HOe.out.end_.mono ?_
                        rintro e wu ⟨rfl, rfl⟩
                        go_wp2_with fail
                        refine HOe.out.list.mono ?_
                        rintro e w9 ⟨K, ka, kc, rfl, hK1, hK2, hc9⟩
                        have hml := fun ty => map_len (P := Tryz.prog) (HOe.out.map.calm hc9) Tryz.underlying28 ty
                        rw [encH_len] at hml
                        have HC9 := box (HOe.out.owns.trans hc9)
                        have e4 : (K : Int) = (N : Int) - (L.length : Int) + (((i : Int) + 1)) := by omega
                        clear hc9 HOe hK2
                        go_wp2_with fail
                        go_ret
                        exact ⟨rfl, HC9.out⟩
                      · obtain rfl : n = 16 := by omega
                        have hful2 := box (show a + 16 = k0 + (i + 1) * 16 ∧ (0 < i + 1 → a + 16 = k0 + (i + 1) * 16) ∧ (i + 1 = 0 → a + 16 = 0) ∧ (∀ j, j < i + 1 → fL L (k0 + j * 16) = some 16) ∧ i + 1 ≤ 6250001 from by
                          obtain ⟨q1, q2, q3, q4, q5⟩ := hful.out
                          have hal := (HOe.out.lens _ ((fL_mem HOe.out.nodup).1 hf)).1
                          simp only at hal
                          refine ⟨by omega, fun _ => by omega, fun h => absurd h (Nat.succ_ne_zero _), fun j hj => ?_, by omega⟩
                          by_cases he : j = i
                          · rw [he, ← q1]; exact hf
                          · exact q4 j (by omega))
                        clear hful hf HOe
                        go_wp2_with fail
                        go_roundw
                        case rel => exact ⟨i + 1, a + 16, a + 16, by go_num, by go_num, by go_num, hful2, hcw⟩
                        case measure => simp [intOf]; omega
            case refine_2 =>
              intro l1 x1 x2 l2 w1 hl hr1 hen hk1 hs1 _
              obtain ⟨L1, ⟨x0, y0⟩, L2, rfl, rfl, rfl, rfl, rfl⟩ := encH_split hl
              have hcalm1 : Calm w5 w1 := ⟨hk1.os.trans hcalm.os, hk1.tape.trans hcalm.tape, hk1.output.trans hcalm.output, Nat.le_trans hcalm.size hk1.size, fun b hb => (hk1.block b (Nat.lt_of_lt_of_le hb hcalm.size) (by omega)).trans (hcalm.block b hb)⟩
              have HLT := box (show w1.rangeLeft mb w5.heap.size < wo.rangeLeft mb w5.heap.size by rw [hr1.left_eq, Hr.out.left_eq, hl]; simp)
              have HB1 := box HB.out.step
              have HR1 := box hr1
              simp only at HB1 hen
              clear hl hr1 HB Hr hs1 hk1 hcalm
              by_cases hA : x0 % 16 = 0
              · have u1 : ((x0 : Int).tmod 16 == 0) = true := beq_iff_eq.2 (by rw [tmod_nat]; omega)
                by_cases hB : y0 ≤ 16
                · have u2 : decide ((y0 : Int) ≤ 16) = true := decide_eq_true (by omega)
                  by_cases hC : b < 0
                  · have u3 : decide (b < 0) = true := decide_eq_true hC
                    go_wp2_with fail
                    go_roundw
                    case rel => exact ⟨L1 ++ L2, (x0 : Int), rfl, by rw [encH_append]; exact HR1.out, box (by have := HB1.out; rwa [if_pos ⟨⟨hA, hB⟩, .inl hC⟩] at this), hcalm1⟩
                    case measure => exact HLT.out
                  · have u3 : decide (b < 0) = false := decide_eq_false hC
                    by_cases hD : (x0 : Int) < b
                    · have u4 : decide ((x0 : Int) < b) = true := decide_eq_true hD
                      go_wp2_with fail
                      go_roundw
                      case rel => exact ⟨L1 ++ L2, (x0 : Int), rfl, by rw [encH_append]; exact HR1.out, box (by have := HB1.out; rwa [if_pos ⟨⟨hA, hB⟩, .inr hD⟩] at this), hcalm1⟩
                      case measure => exact HLT.out
                    · have u4 : decide ((x0 : Int) < b) = false := decide_eq_false hD
                      go_wp2_with fail
                      go_roundw
                      case rel => exact ⟨L1 ++ L2, b, rfl, by rw [encH_append]; exact HR1.out, box (by have := HB1.out; rwa [if_neg (fun h => h.2.elim hC hD)] at this), hcalm1⟩
                      case measure => exact HLT.out
                · have u2 : decide ((y0 : Int) ≤ 16) = false := decide_eq_false (by omega)
                  go_wp2_with fail
                  go_roundw
                  case rel => exact ⟨L1 ++ L2, b, rfl, by rw [encH_append]; exact HR1.out, box (by have := HB1.out; rwa [if_neg (fun h => hB h.1.2)] at this), hcalm1⟩
                  case measure => exact HLT.out
              · have u1 : ((x0 : Int).tmod 16 == 0) = false := beq_eq_false_iff_ne.2 (by rw [tmod_nat]; omega)
                go_wp2_with fail
                go_roundw
                case rel => exact ⟨L1 ++ L2, b, rfl, by rw [encH_append]; exact HR1.out, box (by have := HB1.out; rwa [if_neg (fun h => hA h.1.1)] at this), hcalm1⟩
                case measure => exact HLT.out

abbrev LAIDS : List (String × DataW Unit) := [("math/bits.deBruijn32tab", Rows.laid_math_bits_deBruijn32tab), ("math/bits.deBruijn64tab", Rows.laid_math_bits_deBruijn64tab), ("internal/strconv.uint64pow10", Rows.laid_internal_strconv_uint64pow10), ("unicode/utf8.acceptRanges", Rows.laid_unicode_utf8_acceptRanges), ("strconv.ErrRange", Rows.laid_strconv_ErrRange), ("strconv.ErrSyntax", Rows.laid_strconv_ErrSyntax), ("unicode/utf8.first", Rows.laid_unicode_utf8_first)]
theorem own : ownKnob Tryz.prog.godebug = none := by kernel_rfl
theorem laidOut : laidOutB Tryz.prog = true := by kernel_rfl
set_option maxRecDepth 100000 in
set_option linter.unusedVariables false in
theorem lifted (os : Os) (started : os.Started) (H : Type) (enc : TypeId × Value → H) :
    ReturnsInHanded {} Tryz.checked os 3 .any (fun w args => (Rows.segOpensSpec.pre enc Tryz.prog Tryz.f3 Rows.segOpensRow.domain false w args ∧ laidMetH Tryz.prog LAIDS w) ∧ sizedMet enc Tryz.prog Tryz.f3 (OpenSpec.ofChange Rows.segOpensSpec) false w args) (Rows.segOpensSpec.post enc Tryz.prog Tryz.f3 false true false false) := by
  refine handed_and_shaped (C := Tryz.checked) (X := fun w _ => laidMetH Tryz.prog LAIDS w) (fun _ _ _ hh h => h.of_heap hh) own started (by kernel_rfl) Tryz.func3
    (ChangeSpec.witness_shaped (enc := enc) (C := Tryz.checked) (os := os) (X := fun w _ => laidMetH Tryz.prog LAIDS w) false (World.laidAll Tryz.prog os LAIDS) #[.slice none 0 0, .slice none 0 0, .slice none 0 0] 8 (World.laidAll_os _ _ _)
      (World.shaped_of_ZipB (by kernel_rfl) (by kernel_rfl)) (by kernel_rfl) (by kernel_rfl) (by kernel_rfl)
      (by rw [MakeChecks.laidMetH_plain _ _ _ (by kernel_rfl)]; exact laidMet_laidAll _ (by kernel_rfl) (by kernel_rfl))) ?_
  intro W base args ds gs before hval0 hW hcnd hsz0 hX hshape _
  have hsz : (DataW.weightsEach Tryz.prog (Tryz.f3.params.toList ++ []) (ds ++ gs)).all (· ≤ reachBytes) = true := hsz0
  clear hsz0
  have hval : ∀ (j : Nat) t v, Tryz.f3.params[j]? = some t → args[j]? = some v → Value.okWide Tryz.prog W .any base t v := hval0
  have hW' := hW
  obtain ⟨p, q, hA0, hV, rfl, hfz, hnd⟩ := hW
  have hA : DataW.TrodAll enc Tryz.prog W 0 (fun _ => true) true Tryz.f3.params.toList args.toList ds p := hA0
  rw [Tryz.params3] at hA hval hsz
  obtain ⟨v0, vs0, d0, ds0, p0, q0, hargs, rfl, rfl, h0, r0'⟩ := trodAll_cons hA
  obtain ⟨v1, vs1, d1, ds1, p1, q1, rfl, rfl, rfl, h1, r1'⟩ := trodAll_cons r0'
  obtain ⟨v2, vs2, d2, ds2, p2, q2, rfl, rfl, rfl, h2, r2'⟩ := trodAll_cons r1'
  obtain ⟨rfl, rfl, rfl⟩ := trodAll_nil r2'
  obtain rfl : args = #[v0, v1, v2] := by cases args; simp_all
  obtain ⟨rfl, rfl⟩ := trodVars_none hV
  clear hA0 hval0
  have wt0 := fun n hn => (by simpa using List.all_eq_true.1 hsz n (DataW.weights_mem_each (j := 0) rfl rfl n hn) : n ≤ reachBytes)
  have wt1 := fun n hn => (by simpa using List.all_eq_true.1 hsz n (DataW.weights_mem_each (j := 1) rfl rfl n hn) : n ≤ reachBytes)
  have wt2 := fun n hn => (by simpa using List.all_eq_true.1 hsz n (DataW.weights_mem_each (j := 2) rfl rfl n hn) : n ≤ reachBytes)
  have hlt : ∀ x ∈ p0 ++ (p1 ++ (p2 ++ [])), x.block < W.heap.size := fun x hx => by have := hW'.lt x (by simpa using hx); simpa using this
  have hL : laidMet Tryz.prog LAIDS W := by
    have h : laidMetH Tryz.prog LAIDS W := hX
    rw [MakeChecks.laidMetH_plain _ _ _ (by kernel_rfl)] at h
    exact h
  have htab : Lib.TabIs Tryz.prog W "internal/strconv.uint64pow10" .u64 Lib.pow10Tab :=
    Lib.tabIs_of_head (g := 2) (by kernel_rfl) (by kernel_rfl) Tryz.underlying173 Tryz.underlying128 (by kernel_rfl) (by kernel_rfl) (show laidMet Tryz.prog (("internal/strconv.uint64pow10", Lib.tabData .u64 Lib.pow10Tab) :: _) W from hL.tail.tail)
  obtain ⟨l0, r0⟩ := slice_arg Tryz.underlying22 (hval 0 22 v0 rfl rfl) ((opens_slice (c := 1) Tryz.underlying22 (by kernel_rfl) (by decide) (opens_int Tryz.underlying3)).arg h0)
  obtain ⟨l1, r1⟩ := slice_arg Tryz.underlying23 (hval 1 23 v1 rfl rfl) ((opens_slice (c := 1) Tryz.underlying23 (by kernel_rfl) (by decide) (opens_int Tryz.underlying5)).arg h1)
  obtain ⟨l2, r2, z2, n2⟩ := strs_of_trod Tryz.underlying24 Tryz.underlying9 (by kernel_rfl) (hval 2 24 v2 rfl rfl) h2 wt2
  refine (walk W htab v0 l0 r0 v1 l1 r1 v2 l2 r2 z2 n2).mono fun e W' ⟨he, hg⟩ => ?_
  subst he
  refine ⟨_, rfl, _, _, _, [] ++ [], p0 ++ (p1 ++ (p2 ++ [])), [], hW', ?_, ?_, ?_, hg.frame _, fun h => by cases h⟩
  · exact trodAll_mk1 (shut_bool Tryz.underlying4 true)
  · exact trodAll_cons_mk (Below.trod laidOut (by kernel_rfl) (of_decide_eq_true (by kernel_rfl)) h0 hg (fun x hx => hlt x (by simp [hx]))) (trodAll_cons_mk (Below.trod laidOut (by kernel_rfl) (of_decide_eq_true (by kernel_rfl)) h1 hg (fun x hx => hlt x (by simp [hx]))) (trodAll_cons_mk (Below.trod laidOut (by kernel_rfl) (of_decide_eq_true (by kernel_rfl)) h2 hg (fun x hx => hlt x (by simp [hx]))) (trodAll_mk0)))
  · exact rfl

theorem over : Rows.segOpensRow.holds Tryz.pinned (OpenSpec.ofChange Rows.segOpensSpec) :=
  OpenClaim.holds_of_wide 3 Tryz.f3 rfl rfl rfl rfl rfl rfl rfl ⟨rfl, rfl, rfl, rfl, rfl⟩ rfl rfl rfl rfl rfl (by kernel_rfl) Tryz.func3 (by kernel_rfl)
    (of_decide_eq_true (by kernel_rfl)) (by unfold Func.isWrapper; first | (rw [if_pos (by decide +kernel)]; kernel_rfl) | (rw [if_neg (by decide +kernel)]; exact ⟨rfl, rfl⟩))
    (fun os started H enc _ => lifted os started H enc)

theorem proved : Rows.SegOpensCardSaid :=
  Claim7.holds_tied_plain_at .later [] [.data, .data, .data, .data, .sentinel, .sentinel, .pinned] true _ true over (fun _ h => by cases h) (by kernel_rfl) (fun _ h => by cases h) segOpens_row_tie rfl ⟨rfl, rfl⟩ (by kernel_rfl) rfl
    (fun f fn hf hfn => by
      obtain rfl : f = 3 := Option.some.inj ((show Tryz.prog.funcNamed "reveille/reveillelaw05.SegOpens" = some 3 by kernel_rfl).symm.trans hf) |>.symm
      obtain rfl : fn = Tryz.f3 := (Option.some.inj (Tryz.func3.symm.trans hfn)).symm
      exact ⟨by kernel_rfl, fun j t ht => by
        rw [Tryz.params3] at ht
        have hm : t ∈ [22, 23, 24] := by simpa using Array.mem_of_getElem? ht
        have hall : ([22, 23, 24].all fun u => !Tryz.prog.wantsStandIn u) = true := by kernel_rfl
        exact (show Tryz.prog.wantsStandIn t = false by simpa using List.all_eq_true.1 hall t hm)⟩)
    (by kernel_rfl)
#print axioms proved
end Go.Proofs.YtafdfmdcnniccaaGreatDoor.sopens
