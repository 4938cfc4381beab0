/- Lemmas for this claim. -/
import Derived.Outline
import Derived.Test.YtlnbehbipoahhaaGreatDoorPk20
namespace Go.Proofs.YtlnbehbipoahhaaGreatDoor.sg
open Go.ChangeShapes Go.WideShapes Go.ChangeAt Go.RowKit
open Go.Proofs.YtlnbehbipoahhaaGreatDoor.dk
theorem infoStr3 : (Tryz.prog.info? 9).map (fun i => (i.zero, i.size, i.bytes)) = some (some (.string ⟨#[]⟩), 1, 16) := by kernel_rfl
theorem append_text (w : World) (base : Nat) (v : Value) (l : List ByteArray) (x : ByteArray) (g : Nat) (h : w.ownsRow base 9 1 v l.length (l.map Value.string)) (hbase : base ≤ w.heap.size) (hu : w.heap[g]? = some (.cells #[.string x] 9 (0, 0))) (hl : l.length ≤ 100000) (ty : TypeId) :
    ∃ v' w', (Builtin.append_ #[42, 42] ty #[v, .slice (some ⟨g, 0, none⟩) 1 1]).run Tryz.prog w = .ok v' w' ∧ w'.ownsRow base 9 1 v' (l.length + 1) ((l ++ [x]).map Value.string) ∧ Keeps (base ≤ ·) w w' := by
  obtain ⟨i0, hi, hz0, hz1, hz2⟩ := info_parts infoStr3
  obtain ⟨v', w', h1, h2, h3, _⟩ := run_append_own (P := Tryz.prog) w base 42 ty 9 i0 _ 1 16 Tryz.underlying42 hi hz0 hz1 hz2 (by kernel_rfl) (by decide) v l.length _ h ⟨g, 0, none⟩ 1 1 [.string x] (by simp) (fun j u hj => by
      rw [add_lit, cell_of hu]
      match j, hj with
      | 0, hj => exact hj
      | k + 1, hj => simp at hj) (fun u hu => by
      rcases List.mem_cons.1 hu with rfl | hu
      · rfl
      cases hu) (by simp only [maxLen]; omega) (by omega) hbase
  refine ⟨v', w', h1, ?_, (Keeps.refl (base ≤ ·) w).grown h3 (fun k hk => .inl (h.lt k hk).1)⟩
  rw [List.map_append]
  exact h2
theorem conv8 (w : World) (g : Nat) (d : Nat → Nat) (hg : w.heap[g]? = some (.cells #[.int .u8 (48 + (d 7 : Int)), .int .u8 (48 + (d 6 : Int)), .int .u8 (48 + (d 5 : Int)), .int .u8 (48 + (d 4 : Int)), .int .u8 (48 + (d 3 : Int)), .int .u8 (48 + (d 2 : Int)), .int .u8 (48 + (d 1 : Int)), .int .u8 (48 + (d 0 : Int))] 5 (0, 0))) :
    (convert 73 9 (.slice (some ⟨g, 0, none⟩) 8 8)).run Tryz.prog w = .ok (.string ⟨([UInt8.ofNat (48 + d 7), UInt8.ofNat (48 + d 6), UInt8.ofNat (48 + d 5), UInt8.ofNat (48 + d 4), UInt8.ofNat (48 + d 3), UInt8.ofNat (48 + d 2), UInt8.ofNat (48 + d 1), UInt8.ofNat (48 + d 0)]).toArray⟩) w := by
  have := run_convert_bytes_arg (P := Tryz.prog) w 73 5 Tryz.underlying73 Tryz.underlying5 g 0 8 8 [48 + (d 7 : Int), 48 + (d 6 : Int), 48 + (d 5 : Int), 48 + (d 4 : Int), 48 + (d 3 : Int), 48 + (d 2 : Int), 48 + (d 1 : Int), 48 + (d 0 : Int)] rfl (fun i hi => by
    rw [Nat.zero_add, cell_of hg]
    match i, hi with
    | 0, _ => rfl
    | 1, _ => rfl
    | 2, _ => rfl
    | 3, _ => rfl
    | 4, _ => rfl
    | 5, _ => rfl
    | 6, _ => rfl
    | 7, _ => rfl) 9 Tryz.underlying9
  rw [this]
  have e : ∀ k : Nat, UInt8.ofNat (48 + (k : Int)).toNat = UInt8.ofNat (48 + k) := fun k => by congr 1
  unfold strOfNums
  simp only [List.map_cons, List.map_nil, e]
theorem digits_conv (w : World) (a : Nat) (ha : a < 100000000) :
    (convert 73 9 (.slice (some ⟨w.heap.size, 0, none⟩) 8 8)).run Tryz.prog (w.alloc (.cells #[.int .u8 (48 + (a : Int) / 10000000 % 10), .int .u8 (48 + (a : Int) / 1000000 % 10), .int .u8 (48 + (a : Int) / 100000 % 10), .int .u8 (48 + (a : Int) / 10000 % 10), .int .u8 (48 + (a : Int) / 1000 % 10), .int .u8 (48 + (a : Int) / 100 % 10), .int .u8 (48 + (a : Int) / 10 % 10), .int .u8 (48 + (a : Int) % 10)] 5)) = .ok (.string ⟨(dL 8 a).toArray⟩) (w.alloc (.cells #[.int .u8 (48 + (a : Int) / 10000000 % 10), .int .u8 (48 + (a : Int) / 1000000 % 10), .int .u8 (48 + (a : Int) / 100000 % 10), .int .u8 (48 + (a : Int) / 10000 % 10), .int .u8 (48 + (a : Int) / 1000 % 10), .int .u8 (48 + (a : Int) / 100 % 10), .int .u8 (48 + (a : Int) / 10 % 10), .int .u8 (48 + (a : Int) % 10)] 5)) := by
  have := conv8 (w.alloc (.cells #[.int .u8 (48 + (a : Int) / 10000000 % 10), .int .u8 (48 + (a : Int) / 1000000 % 10), .int .u8 (48 + (a : Int) / 100000 % 10), .int .u8 (48 + (a : Int) / 10000 % 10), .int .u8 (48 + (a : Int) / 1000 % 10), .int .u8 (48 + (a : Int) / 100 % 10), .int .u8 (48 + (a : Int) / 10 % 10), .int .u8 (48 + (a : Int) % 10)] 5)) w.heap.size (fun k => match k with | 0 => a % 10 | 1 => a / 10 % 10 | 2 => a / 100 % 10 | 3 => a / 1000 % 10 | 4 => a / 10000 % 10 | 5 => a / 100000 % 10 | 6 => a / 1000000 % 10 | _ => a / 10000000 % 10) (heap_new w _)
  have e : [UInt8.ofNat (48 + a / 10000000 % 10), UInt8.ofNat (48 + a / 1000000 % 10), UInt8.ofNat (48 + a / 100000 % 10), UInt8.ofNat (48 + a / 10000 % 10), UInt8.ofNat (48 + a / 1000 % 10), UInt8.ofNat (48 + a / 100 % 10), UInt8.ofNat (48 + a / 10 % 10), UInt8.ofNat (48 + a % 10)] = dL 8 a := by
    rw [dL_eight, Nat.mod_eq_of_lt (show a / 10000000 < 10 by omega)]
  rw [← e]
  exact this
end Go.Proofs.YtlnbehbipoahhaaGreatDoor.sg

namespace Go.Proofs.YtlnbehbipoahhaaGreatDoor.sg
open Go.ChangeShapes Go.WideShapes Go.ChangeAt Go.RowKit
open Go.Proofs.YtlnbehbipoahhaaGreatDoor.dk
theorem StrsOf {w : World} {base i : Nat} {v : Value} {l : List ByteArray} (h : w.ownsRow base 9 1 v i (l.map Value.string)) (hl : l.length = i) : StrsAt w v l := by
  subst hl; exact strs_own h
abbrev logN : ByteArray := ⟨#[108, 111, 103]⟩
section
variable {w w' : World} {p n c m : Nat} {D : DiskS} {R : RowS} {b : List UInt8} {F : Nat → Prop}
set_option maxRecDepth 100000 in
set_option maxHeartbeats 8000000 in
theorem files_any (w : World) (h : DiskOk w p D F n) (hH : Holds D R b) (ha : Able D c m) (ht : Tight R) (hd : R.head = logN) (sole : ∀ s, D.has s = true → ∃ k, k < 100000000 ∧ s = nameB R.head k) (y : Nat) (bS : ByteArray) (hb : bS = bA b) (hc : R.cnt ≤ 10000) (hf : R.fin ≤ 100000000) (hm : m ≤ 1000000) :
    Calls Tryz.prog 19 #[ptrTo p, .int .i64 (R.size : Int), .agg #[.string bS, .int .i64 (R.start : Int), .int .i64 (y : Int), .bool (decide (0 < R.cnt))]] w fun e w' => e = .returned (.bool true) ∧ Calm w w' := by
  have hz := hH.ok.size
  have hbs : bS.size = b.length := by rw [hb, bA_size]
  have hfb := hH.size
  have HB := box hb
  have H := box h
  have HH := box hH
  have HA := box ha
  have HT := box ht
  obtain ⟨any, hany⟩ : ∃ any, decide (0 < R.cnt) = any := ⟨_, rfl⟩
  rw [hany]
  have Hany := box hany
  have hn := box (heap_new w (.cells #[.string bS, .int .i64 (R.start : Int), .int .i64 (y : Int), .bool any] 31))
  have hcl := box ((Calm.refl w).alloc (.cells #[.string bS, .int .i64 (R.start : Int), .int .i64 (y : Int), .bool any] 31))
  clear h hH ha ht hany hb
  have k1 := cell_of hn.out 1
  have klt := heap_lt hn.out
  go_enter Tryz.func19, Tryz.ntmps19
  go_wp2_with fail
  obtain ⟨wb, hwb⟩ : ∃ wb, w.alloc (.cells #[.string bS, .int .i64 (R.start : Int), .int .i64 (y : Int), .bool any] 31) = wb := ⟨_, rfl⟩
  rw [hwb] at hn hcl ⊢
  clear hwb k1 klt
  go_loopw [7, 8] (fun vv av wr => ∃ i : Nat, i ≤ R.cnt ∧ av = .int .i64 ((R.start + i * R.size : Nat) : Int) ∧ wr.ownsRow wb.heap.size 9 1 vv i (((plc R.start R.size i).map (nameB logN)).map Value.string) ∧ Calm wb wr) (fun _ av _ => R.fin + 2 * R.size + 1 - (intOf av).toNat)
  case atStart => exact ⟨0, Nat.zero_le _, by rw [Nat.zero_mul, Nat.add_zero], World.ownsRow_nil _ _ _ _, .refl _⟩
  case round =>
    obtain ⟨i, hi, rfl, hrow, hcw⟩ := hrel
    obtain ⟨wo, hwo⟩ : ∃ wo : World, wo = wr := ⟨_, rfl⟩
    subst hwo
    have HC := box hcw
    have Hrow := box hrow
    have Hi := box hi
    have Hgo := box (goes_on HH.out.ok HT.out hi)
    obtain ⟨a, hea⟩ : ∃ a, R.start + i * R.size = a := ⟨_, rfl⟩
    rw [hea] at Hgo ⊢
    have Hea := box hea
    have hcell := heap_calm hcw hn.out
    have k0 := cell_of hcell 0
    have k1 := cell_of hcell 1
    have k2 := cell_of hcell 2
    have k3 := cell_of hcell 3
    have klt := heap_lt hcell
    have hend := box (fun w' => rend_any bS R.start y any w' (by omega) (by omega))
    rw [show R.start + bS.size = R.fin by omega] at hend
    clear hrow hea hcw hi hcell
    go_wp2_with fail
    refine (hend.out _).mono ?_
    rintro e w4 ⟨rfl, hc4⟩
    have HC4 := box (HC.out.trans hc4)
    have hcell := heap_calm HC4.out hn.out
    have c0 := cell_of hcell 0
    have c1 := cell_of hcell 1
    have c2 := cell_of hcell 2
    have c3 := cell_of hcell 3
    have glt := heap_lt hcell
    have Hrow4 := box (own_calm Hrow.out hc4)
    clear hcell hc4 Hrow HC hend k0 k1 k2 k3 klt
    by_cases hlt2 : i < R.cnt
    · by_cases hA : a < R.fin
      · have u1 : decide (a < R.fin) = true := decide_eq_true hA
        have hai : R.start + i * R.size ≤ 99999999 := (HH.out.ok.place hlt2).2
        have ha8 : a ≤ 99999999 := by have := Hea.out; omega
        have hcv := digits_conv w4 a (by omega)
        obtain ⟨dg, hdg⟩ : ∃ dg, (⟨(dL 8 a).toArray⟩ : ByteArray) = dg := ⟨_, rfl⟩
        obtain ⟨nm, hnm⟩ : ∃ nm, nameB logN a = nm := ⟨_, rfl⟩
        have hcat : ({ data := #[108, 111, 103] } : ByteArray) ++ dg = nm := by
          rw [← hdg, ← hnm]
          exact ba_ext (by rw [ByteArray.data_append, Array.toList_append]; rfl)
        have hdgs : dg.size = 8 := by rw [← hdg]; show (dL 8 a).toArray.size = 8; simp [dL_length]
        rw [hdg] at hcv
        obtain ⟨X, hX⟩ : ∃ X : Array Value, X = #[.int .u8 (48 + (a : Int) / 10000000 % 10), .int .u8 (48 + (a : Int) / 1000000 % 10), .int .u8 (48 + (a : Int) / 100000 % 10), .int .u8 (48 + (a : Int) / 10000 % 10), .int .u8 (48 + (a : Int) / 1000 % 10), .int .u8 (48 + (a : Int) / 100 % 10), .int .u8 (48 + (a : Int) / 10 % 10), .int .u8 (48 + (a : Int) % 10)] := ⟨_, rfl⟩
        have hcx := (Calm.refl w4).alloc (.cells X 5)
        have hcn := hcx.alloc (.cells #[.string nm] 9)
        obtain ⟨vn, w6, happ, hrow6, hk6⟩ := append_text ((w4.alloc (.cells X 5)).alloc (.cells #[.string nm] 9)) wb.heap.size u7 ((plc R.start R.size i).map (nameB logN)) nm (w4.alloc (.cells X 5)).heap.size (by rw [List.length_map, plc_length]; exact own_calm Hrow4.out hcn) (by have := HC4.out.size; have := hcn.size; omega) (heap_new _ _) (by rw [List.length_map, plc_length]; omega) 42
        subst hX
        rw [List.length_map, plc_length] at hrow6
        simp only [World.size_alloc] at happ
        have HC6 := box (show Calm wb w6 from Below.trans (Calm.trans HC4.out hcn) (hk6.below (Calm.trans HC4.out hcn).size (fun b hb => hb)))
        clear hcx hcn hk6 hdg hai
        go_wp2_with (first | (at_builtin; refine Lib.wpList_append_run _ rfl _ _ _ _ rfl _ _ rfl rfl _ _ happ ?_) | fail)
        obtain ⟨sg, hsg⟩ : ∃ sg, bA (segL b R.size i) = sg := ⟨_, rfl⟩
        have hile : i * R.size ≤ b.length := by
          have h1 := (HH.out.lastLen (by omega)).1
          have h2 : i * R.size ≤ (R.cnt - 1) * R.size := Nat.mul_le_mul_right _ (by omega)
          omega
        have hsl : ∀ W' : World, (Instr.slice 9 (.string bS) (some (.int .i64 ((a : Int) - (R.start : Int)))) (some (.int .i64 (min ((a : Int) - (R.start : Int) + (R.size : Int)) (b.length : Int)))) none).run Tryz.prog W' = .ok (.string sg) W' := fun W' => by
          have hea := Hea.out
          rw [run_slice_string _ _ _ _ _ _ _ Tryz.underlying9 (by omega) (by omega) (by omega), ← hsg]
          congr 2
          refine ba_ext ?_
          rw [extract_list, bA_list, HB.out, bA_list]
          unfold segL
          rw [List.drop_take, show ((a : Int) - (R.start : Int)).toNat = i * R.size by omega]
          refine List.take_eq_take_iff.2 ?_
          rw [List.length_drop]
          omega
        have hall : D.all nm = (sg, 0) := all_bytes HA.out.alive (by
          have := HH.out.segs i hlt2
          rw [Hea.out, hd, hnm, hsg] at this
          exact this)
        have hcall := box (All_any w6 nm (H.out.calm (hcl.out.trans HC6.out)).lies)
        rw [hall] at hcall
        have Hrow6 := box hrow6
        clear happ hcv hcat c0 c1 c2 c3 glt Hrow4 hall hrow6
        refine hcall.out.mono ?_
        rintro e w7 ⟨rfl, hc7⟩
        have HC7 := box (HC6.out.trans hc7)
        have hcell := heap_calm HC7.out hn.out
        have c0 := cell_of hcell 0
        have c1 := cell_of hcell 1
        have c2 := cell_of hcell 2
        have c3 := cell_of hcell 3
        have glt := heap_lt hcell
        have Hrow7 := box (own_calm Hrow6.out hc7)
        clear hcell hc7 Hrow6 HC6 hcall
        clear hsg hile
        go_wp2_with fail
        go_roundw
        case rel => exact ⟨i + 1, by omega, by have hea := Hea.out; rw [show R.start + (i + 1) * R.size = a + R.size by rw [Nat.succ_mul]; omega]; go_num, by have := Hrow7.out; rw [← hnm, ← Hea.out] at this; rw [plc_snoc, List.map_append]; exact this, HC7.out⟩
        case measure => simp [intOf]; omega
      · have u1 : decide (a < R.fin) = false := decide_eq_false hA
        obtain ⟨hi0, hcp⟩ : i = 0 ∧ 0 < R.cnt := (Hgo.out.1 hlt2).resolve_left hA
        obtain rfl : any = true := by rw [← Hany.out]; exact decide_eq_true hcp
        have hea0 : a = R.start := by rw [← Hea.out, hi0, Nat.zero_mul, Nat.add_zero]
        have u2 : ((a : Int) == (R.start : Int)) = true := beq_iff_eq.2 (by omega)
        have u3 : (a == R.start) = true := beq_iff_eq.2 hea0
        have hle0 : a ≤ R.fin := by omega
        clear hi0 hea0
        have hai : R.start + i * R.size ≤ 99999999 := (HH.out.ok.place hlt2).2
        have ha8 : a ≤ 99999999 := by have := Hea.out; omega
        have hcv := digits_conv w4 a (by omega)
        obtain ⟨dg, hdg⟩ : ∃ dg, (⟨(dL 8 a).toArray⟩ : ByteArray) = dg := ⟨_, rfl⟩
        obtain ⟨nm, hnm⟩ : ∃ nm, nameB logN a = nm := ⟨_, rfl⟩
        have hcat : ({ data := #[108, 111, 103] } : ByteArray) ++ dg = nm := by
          rw [← hdg, ← hnm]
          exact ba_ext (by rw [ByteArray.data_append, Array.toList_append]; rfl)
        have hdgs : dg.size = 8 := by rw [← hdg]; show (dL 8 a).toArray.size = 8; simp [dL_length]
        rw [hdg] at hcv
        obtain ⟨X, hX⟩ : ∃ X : Array Value, X = #[.int .u8 (48 + (a : Int) / 10000000 % 10), .int .u8 (48 + (a : Int) / 1000000 % 10), .int .u8 (48 + (a : Int) / 100000 % 10), .int .u8 (48 + (a : Int) / 10000 % 10), .int .u8 (48 + (a : Int) / 1000 % 10), .int .u8 (48 + (a : Int) / 100 % 10), .int .u8 (48 + (a : Int) / 10 % 10), .int .u8 (48 + (a : Int) % 10)] := ⟨_, rfl⟩
        have hcx := (Calm.refl w4).alloc (.cells X 5)
        have hcn := hcx.alloc (.cells #[.string nm] 9)
        obtain ⟨vn, w6, happ, hrow6, hk6⟩ := append_text ((w4.alloc (.cells X 5)).alloc (.cells #[.string nm] 9)) wb.heap.size u7 ((plc R.start R.size i).map (nameB logN)) nm (w4.alloc (.cells X 5)).heap.size (by rw [List.length_map, plc_length]; exact own_calm Hrow4.out hcn) (by have := HC4.out.size; have := hcn.size; omega) (heap_new _ _) (by rw [List.length_map, plc_length]; omega) 42
        subst hX
        rw [List.length_map, plc_length] at hrow6
        simp only [World.size_alloc] at happ
        have HC6 := box (show Calm wb w6 from Below.trans (Calm.trans HC4.out hcn) (hk6.below (Calm.trans HC4.out hcn).size (fun b hb => hb)))
        clear hcx hcn hk6 hdg hai
        go_wp2_with (first | (at_builtin; refine Lib.wpList_append_run _ rfl _ _ _ _ rfl _ _ rfl rfl _ _ happ ?_) | fail)
        obtain ⟨sg, hsg⟩ : ∃ sg, bA (segL b R.size i) = sg := ⟨_, rfl⟩
        have hile : i * R.size ≤ b.length := by
          have h1 := (HH.out.lastLen (by omega)).1
          have h2 : i * R.size ≤ (R.cnt - 1) * R.size := Nat.mul_le_mul_right _ (by omega)
          omega
        have hsl : ∀ W' : World, (Instr.slice 9 (.string bS) (some (.int .i64 ((a : Int) - (R.start : Int)))) (some (.int .i64 (min ((a : Int) - (R.start : Int) + (R.size : Int)) (b.length : Int)))) none).run Tryz.prog W' = .ok (.string sg) W' := fun W' => by
          have hea := Hea.out
          rw [run_slice_string _ _ _ _ _ _ _ Tryz.underlying9 (by omega) (by omega) (by omega), ← hsg]
          congr 2
          refine ba_ext ?_
          rw [extract_list, bA_list, HB.out, bA_list]
          unfold segL
          rw [List.drop_take, show ((a : Int) - (R.start : Int)).toNat = i * R.size by omega]
          refine List.take_eq_take_iff.2 ?_
          rw [List.length_drop]
          omega
        have hall : D.all nm = (sg, 0) := all_bytes HA.out.alive (by
          have := HH.out.segs i hlt2
          rw [Hea.out, hd, hnm, hsg] at this
          exact this)
        have hcall := box (All_any w6 nm (H.out.calm (hcl.out.trans HC6.out)).lies)
        rw [hall] at hcall
        have Hrow6 := box hrow6
        clear happ hcv hcat c0 c1 c2 c3 glt Hrow4 hall hrow6
        refine hcall.out.mono ?_
        rintro e w7 ⟨rfl, hc7⟩
        have HC7 := box (HC6.out.trans hc7)
        have hcell := heap_calm HC7.out hn.out
        have c0 := cell_of hcell 0
        have c1 := cell_of hcell 1
        have c2 := cell_of hcell 2
        have c3 := cell_of hcell 3
        have glt := heap_lt hcell
        have Hrow7 := box (own_calm Hrow6.out hc7)
        clear hcell hc7 Hrow6 HC6 hcall
        clear hsg hile
        go_wp2_with fail
        go_roundw
        case rel => exact ⟨i + 1, by omega, by have hea := Hea.out; rw [show R.start + (i + 1) * R.size = a + R.size by rw [Nat.succ_mul]; omega]; go_num, by have := Hrow7.out; rw [← hnm, ← Hea.out] at this; rw [plc_snoc, List.map_append]; exact this, HC7.out⟩
        case measure => simp [intOf]; omega
    · have hic : i = R.cnt := by have := Hi.out; omega
      have hA : ¬ a < R.fin := fun h => hlt2 (Hgo.out.2 (.inl h))
      have u1 : decide (a < R.fin) = false := decide_eq_false hA
      have hli := fun (w' : World) (hc : Calm w4 w') => List_any logN w' (H.out.calm (hcl.out.trans (HC4.out.trans hc))).lies (fun f hf => by have := HA.out.file f hf; unfold maxLen; omega) (by have := HA.out.files; omega)
      have hnames : D.names logN = (plc R.start R.size R.cnt).map (nameB logN) := by
        have := HH.out.names H.out.form sole
        rw [hd] at this
        exact this
      have hst := StrsOf Hrow4.out (by rw [List.length_map, plc_length])
      have Hli := box hli
      have Hst := box hst
      have Hnames := box hnames
      have hlen : i ≤ 10000 := by omega
      clear hli hst hnames Hrow4
      by_cases hc0 : R.cnt = 0
      · obtain rfl : any = false := by rw [← Hany.out]; exact decide_eq_false (by omega)
        have u2 : ((a : Int) == (R.start : Int)) = true := beq_iff_eq.2 (by have := Hea.out; rw [hic, hc0, Nat.zero_mul] at this; omega)
        have u3 : (a == R.start) = true := beq_iff_eq.2 (by have := Hea.out; rw [hic, hc0, Nat.zero_mul] at this; omega)
        have Hic := box hic
        clear hic hc0
        go_wp2_with fail
        refine (Hli.out _ (by first | exact .refl _ | (repeat' (first | (with_reducible exact Calm.refl _) | (with_reducible assumption) | (with_reducible refine Calm.drew ?_) | (with_reducible refine Calm.alloc ?_ _) | (with_reducible refine Calm.trans ?_ (by assumption)))))).mono ?_
        rintro e w8 ⟨lv, rfl, hls, hc8, _⟩
        rw [Hnames.out] at hls
        have hsame := box (Texts_any lv u7 _ _ w8 hls (Hst.out.calm hc8) (by rw [List.length_map, plc_length]; omega) (by rw [List.length_map, plc_length]; omega))
        rw [Hic.out] at hsame
        simp only [decide_true] at hsame
        have HC8 := box (hcl.out.trans (HC4.out.trans hc8))
        clear hls hc8
        go_wp2_with fail
        refine hsame.out.mono ?_
        rintro e w9 ⟨rfl, hc9⟩
        have HC9 := box (HC8.out.trans hc9)
        clear hc9 hsame
        go_wp2_with fail
        go_ret
        exact ⟨rfl, HC9.out⟩
      · have hne : R.start < a := by
          have := Hea.out
          have h2 := plc_lt (size := R.size) (show 0 < i by omega)
          omega
        have u2 : ((a : Int) == (R.start : Int)) = false := beq_eq_false_iff_ne.2 (by omega)
        have u3 : (a == R.start) = false := beq_eq_false_iff_ne.2 (by omega)
        have Hic := box hic
        clear hic hc0
        go_wp2_with fail
        refine (Hli.out _ (by first | exact .refl _ | (repeat' (first | (with_reducible exact Calm.refl _) | (with_reducible assumption) | (with_reducible refine Calm.drew ?_) | (with_reducible refine Calm.alloc ?_ _) | (with_reducible refine Calm.trans ?_ (by assumption)))))).mono ?_
        rintro e w8 ⟨lv, rfl, hls, hc8, _⟩
        rw [Hnames.out] at hls
        have hsame := box (Texts_any lv u7 _ _ w8 hls (Hst.out.calm hc8) (by rw [List.length_map, plc_length]; omega) (by rw [List.length_map, plc_length]; omega))
        rw [Hic.out] at hsame
        simp only [decide_true] at hsame
        have HC8 := box (hcl.out.trans (HC4.out.trans hc8))
        clear hls hc8
        go_wp2_with fail
        refine hsame.out.mono ?_
        rintro e w9 ⟨rfl, hc9⟩
        have HC9 := box (HC8.out.trans hc9)
        clear hc9 hsame
        go_wp2_with fail
        go_ret
        exact ⟨rfl, HC9.out⟩
end
end Go.Proofs.YtlnbehbipoahhaaGreatDoor.sg

namespace Go.Proofs.YtlnbehbipoahhaaGreatDoor.sg
open Go.ChangeShapes Go.WideShapes Go.ChangeAt Go.RowKit
open Go.Proofs.YtlnbehbipoahhaaGreatDoor.dk
structure Op5 where
  k : Int
  a : Int
  n : Int
  s : ByteArray
def encO5 (o : Op5) : List Value := [.int .i64 o.k, .int .i64 o.a, .int .i64 o.n, .string o.s]
def Op5R : Reads Op5 := fun _ cs o => cs = encO5 o ∧ o.s.size ≤ maxLen ∧ (-9223372036854775808 ≤ o.a ∧ o.a ≤ 9223372036854775807) ∧ -9223372036854775808 ≤ o.n ∧ o.n ≤ 9223372036854775807
theorem Op5R.lasts : Op5R.Lasts := fun _ _ _ _ h _ => h
set_option maxRecDepth 100000 in
theorem opens_op5 : Opens Tryz.prog 33 Op5R := fun H enc w base sp held fuel cs x h => by
  obtain ⟨xs, n, _, _, hlen, hxl, hg⟩ := DataW.trod_struct Tryz.underlying33 h
  rw [show Tryz.prog.cellsOf 33 = 4 by kernel_rfl] at hlen
  match cs, hlen with
  | [c0, c1, c2, c3], _ =>
    simp only [List.size_toArray, List.length_cons, List.length_nil] at hxl
    have g0 := hg 0 _ rfl
    have g1 := hg 1 _ rfl
    have g2 := hg 2 _ rfl
    have g3 := hg 3 _ rfl
    clear hg
    rw [List.getElem?_eq_getElem (by omega)] at g0 g1 g2 g3
    obtain ⟨k, hk, hk2, hk3⟩ := opens_int Tryz.underlying3 _ _ _ _ _ _ _ _ _ g0
    obtain ⟨a, ha, ha2, ha3⟩ := opens_int Tryz.underlying3 _ _ _ _ _ _ _ _ _ g1
    obtain ⟨m, hm, hm2, hm3⟩ := opens_int Tryz.underlying3 _ _ _ _ _ _ _ _ _ g2
    obtain ⟨s, hs, hs2⟩ := opens_string Tryz.underlying9 _ _ _ _ _ _ _ _ _ g3
    have n1 : Tryz.prog.cellsOf 3 = 1 := by kernel_rfl
    have n2 : Tryz.prog.cellsOf 9 = 1 := by kernel_rfl
    refine ⟨⟨k, a, m, s⟩, ?_, hs2, ⟨ha2, ha3⟩, hm2, hm3⟩
    simp [n1, n2] at hk ha hm hs
    subst hk ha hm hs
    rfl
theorem RowsAt.ops5 {w : World} {v : Value} {l : List Op5} (h : RowsAt Op5R 4 w v l) : ∃ a cap, v = .slice a l.length cap ∧ l.length ≤ maxLen ∧ ∀ i (hi : i < l.length), ∃ b off, a = some ⟨b, off, none⟩ ∧ b < w.heap.size ∧
    w.cell? ⟨b, off + i * 4, none⟩ = some (.int .i64 l[i].k) ∧ w.cell? ⟨b, off + i * 4 + 1, none⟩ = some (.int .i64 l[i].a) ∧ w.cell? ⟨b, off + i * 4 + 2, none⟩ = some (.int .i64 l[i].n) ∧ w.cell? ⟨b, off + i * 4 + 3, none⟩ = some (.string l[i].s) ∧ l[i].s.size ≤ maxLen ∧ (-9223372036854775808 ≤ l[i].a ∧ l[i].a ≤ 9223372036854775807) ∧ -9223372036854775808 ≤ l[i].n ∧ l[i].n ≤ 9223372036854775807 := by
  obtain ⟨a, cap, rfl, h2, h3, h4⟩ := h
  refine ⟨a, cap, rfl, by omega, fun i hi => ?_⟩
  obtain ⟨b, off, cs, e, hb, hl, hcell, hr, hm⟩ := h4 i hi
  subst hr
  exact ⟨b, off, e, hb, hcell 0 (by decide), hcell 1 (by decide), hcell 2 (by decide), hcell 3 (by decide), hm⟩
section
variable {W w w' : World} {p ra rb k c m k' m' : Nat} {Ra Rb Ra' : RowS} {va vb v' : Value} {D D' : DiskS} {F F' : Nat → Prop} {ba bb ba' : List UInt8}
structure Two (W : World) (p ra rb k c m : Nat) (D : DiskS) (Ra Rb : RowS) (ba bb : List UInt8) (F : Nat → Prop) (va vb : Value) (w : World) : Prop where
  a : Lw W ra p k c m D Ra ba F va w
  b : Lw W rb p k c m D Rb bb F vb w
  ne : ra ≠ rb
  vne : ∀ g, va.ownBlock = some g → vb.ownBlock ≠ some g
  heads : Ra.head ≠ Rb.head
theorem Two.calm (h : Two W p ra rb k c m D Ra Rb ba bb F va vb w) (hc : Calm w w') : Two W p ra rb k c m D Ra Rb ba bb F va vb w' := ⟨h.a.calm hc, h.b.calm hc, h.ne, h.vne, h.heads⟩
theorem row_row {r1 r2 : Nat} {R1 R2 : RowS} {v1 v2 : Value} (h1 : RowAt w r1 p R1 v1) (h2 : RowAt w r2 p R2 v2) : v1.ownBlock ≠ some r2 := fun e => by
  obtain ⟨cur, hc⟩ := own_row h1.row e
  rw [h2.at_] at hc; simp only [Option.some.injEq, Obj.cells.injEq] at hc; exact absurd hc.2.1 (by decide)
theorem Two.next (h : Two W p ra rb k c m D Ra Rb ba bb F va vb w) (hx : LwNext W ra p k' c m' D' Ra' ba' w F va D w') (hh : Ra'.head = Ra.head) :
    ∃ F' va', Two W p ra rb k' c m' D' Ra' Rb ba' bb F' va' vb w' := by
  obtain ⟨F', va', hL, hT, hO⟩ := hx
  have hne : Rb.head ≠ Ra'.head := by rw [hh]; exact h.heads.symm
  have hrow : RowAt w' rb p Rb vb := h.b.seg.row.keep hT.keeps (fun e => by
    rcases e with e | e | e
    · exact row_apart h.b.seg.disk h.b.seg.row.at_ e
    · exact h.ne e.symm
    · exact row_row h.a.seg.row h.b.seg.row e) (fun g hg e => by
    rcases e with e | e | e
    · exact places_apart h.b.seg.disk h.b.seg.row hg e
    · exact row_row h.b.seg.row h.a.seg.row (e ▸ hg)
    · exact h.vne g e hg)
  refine ⟨F', va', hL, ⟨⟨hL.seg.disk, hrow, h.b.seg.tab, hL.seg.calm, hL.seg.fW, h.b.seg.rW, h.b.seg.vW⟩, h.b.holds.other hO hne, hL.able⟩, h.ne, fun g hg e => ?_, by rw [hh]; exact h.heads⟩
  rcases hT.row g hg with h1 | h1
  · exact h.vne g h1 e
  · have := (h.b.seg.row.row.lt g e).2; omega
theorem Two.anew (h : Two W p ra rb k c m D Ra Rb ba bb F va vb w) {r : Nat} {Rn : RowS} (hr : w.heap.size ≤ r) (hL : Lw W r p k c m D Rn bb F' v' w') (hv : ∀ g, v'.ownBlock = some g → w.heap.size ≤ g) (hs : Step F w F' w') (hh : Rn.head = Rb.head) :
    Two W p ra r k c m D Ra Rn ba bb F' va v' w' := by
  have hrow := h.a.seg.row.step h.a.seg.disk hs
  refine ⟨⟨⟨hL.seg.disk, hrow, h.a.seg.tab, hL.seg.calm, hL.seg.fW, h.a.seg.rW, h.a.seg.vW⟩, h.a.holds, h.a.able⟩, hL, fun e => ?_, fun g hg e => ?_, by rw [hh]; exact h.heads⟩
  · have := heap_lt h.a.seg.row.at_; omega
  · have := (h.a.seg.row.row.lt g hg).2; have := hv g e; omega
end
end Go.Proofs.YtlnbehbipoahhaaGreatDoor.sg

namespace Go.Proofs.YtlnbehbipoahhaaGreatDoor.splay
open Go.ChangeShapes Go.WideShapes Go.ChangeAt Go.RowKit
open Go.Proofs.YtlnbehbipoahhaaGreatDoor.dk Go.Proofs.YtlnbehbipoahhaaGreatDoor.sg
structure XS where
  b : ByteArray
  start : Nat
  synced : Nat
  any : Bool
def XS.fin (x : XS) : Nat := x.start + x.b.size
section
variable {W w w' : World} {p r n c m k size g : Nat} {D D' : DiskS} {R R' : RowS} {b : List UInt8} {F F' : Nat → Prop} {v v' : Value} {cs : Array Value} {T : TypeId} {x : XS}
def Oth5 (T : TypeId) : Prop := T ≠ 53 ∧ T ≠ 87 ∧ T ≠ 84 ∧ T ≠ 56 ∧ T ≠ 3
theorem oth_row : Oth5 31 := by unfold Oth5; decide
theorem oth_op : Oth5 33 := by unfold Oth5; decide
theorem oth_disk (hT : Oth5 T) (h : w.heap[g]? = some (.cells cs T (0, 0))) (hd : DiskOk w p D F n) : ¬ F g := fun hf => by
  obtain ⟨t1, t2, t3, _⟩ := hT
  obtain ⟨mb, wv, h1, rfl⟩ := hd.lies
  rcases hf with rfl | rfl | hf | hf
  · rw [h1.obj] at h; simp only [Option.some.injEq, Obj.cells.injEq] at h; exact t1 h.2.1.symm
  · obtain ⟨es, c, hm, _⟩ := h1.map; rw [hm] at h; cases h
  · obtain ⟨c, hc2⟩ := own_row h1.waits hf; rw [hc2] at h; simp only [Option.some.injEq, Obj.cells.injEq] at h; exact t2 h.2.1.symm
  · obtain ⟨f, hf', rfl⟩ := List.mem_map.1 hf
    rw [h1.files f hf'] at h; simp only [Option.some.injEq, Obj.cells.injEq] at h; exact t3 h.2.1.symm
theorem oth_next (hT : Oth5 T) (h : w.heap[g]? = some (.cells cs T (0, 0))) (hs : SegAt W w r p n D R F v) (hS : SegStep w r F v w' F' v') : w'.heap[g]? = some (.cells cs T (0, 0)) := by
  rw [hS.keeps.block g (heap_lt h) (fun e => by
    rcases e with e | e | e
    · exact oth_disk hT h hs.disk e
    · subst e; rw [hs.row.at_] at h; simp only [Option.some.injEq, Obj.cells.injEq] at h; exact hT.2.2.2.1 h.2.1.symm
    · obtain ⟨c, hc2⟩ := own_row hs.row.row e; rw [hc2] at h; simp only [Option.some.injEq, Obj.cells.injEq] at h; exact hT.2.2.2.2 h.2.1.symm)]
  exact h
def Kept5 (w w' : World) : Prop := ∀ (T : TypeId), Oth5 T → ∀ (g : Nat) (cs : Array Value), w.heap[g]? = some (.cells cs T (0, 0)) → w'.heap[g]? = some (.cells cs T (0, 0))
theorem Kept5.calm (h : Calm w w') : Kept5 w w' := fun _ _ _ _ hb => heap_calm h hb
theorem kept_next (hs : SegAt W w r p n D R F v) (hS : SegStep w r F v w' F' v') : Kept5 w w' := fun _ hT _ _ h => oth_next hT h hs hS
def Sole (D : DiskS) : Prop := ∀ s, D.has s = true → ∃ k, k < 100000000 ∧ s = nameB logN k
theorem Sole.only (h : Sole D) (ho : Only D D' logN) : Sole D' := fun s hs => by
  by_cases hk : ∃ k, k < 100000000 ∧ s = nameB logN k
  · exact hk
  · refine h s ?_
    have := ho s (fun k hk1 e => hk ⟨k, hk1, e⟩)
    rw [bytes_has, this, ← bytes_has] at hs
    exact hs
structure Pl (W : World) (p r size k : Nat) (x : XS) (w : World) : Prop where
  at_ : ∃ m D R F v, Lw W r p k 1048576 m D R x.b.data.toList F v w ∧ (R.head = logN ∧ R.size = size ∧ R.start = x.start ∧ R.synced = x.synced ∧ R.fin = x.fin ∧ x.any = decide (0 < R.cnt)) ∧ Tight R ∧ Sole D ∧ x.synced ≤ x.fin ∧ x.fin ≤ 300 * k ∧ m ≤ 301 * k
theorem Pl.calm (h : Pl W p r size k x w) (hc : Calm w w') : Pl W p r size k x w' := by
  obtain ⟨m, D, R, F, v, h1, h2⟩ := h.at_
  exact ⟨m, D, R, F, v, h1.calm hc, h2⟩
theorem Pl.owns (h : Pl W p r size k x w) : Calm W w := by
  obtain ⟨m, D, R, F, v, h1, h2⟩ := h.at_
  exact h1.seg.calm
theorem Pl.more (h : Pl W p r size k x w) : Pl W p r size (k + 1) x w := by
  obtain ⟨m, D, R, F, v, h1, h2, h3, h4, h5, h6, h7⟩ := h.at_
  exact ⟨m, D, R, F, v, ⟨h1.seg.mono (Nat.le_succ k), h1.holds, h1.able⟩, h2, h3, h4, h5, by omega, by omega⟩
theorem toList_app (s t : ByteArray) : (s ++ t).data.toList = s.data.toList ++ t.data.toList := by
  rw [ByteArray.data_append, Array.toList_append]
theorem Pl.append (h : Pl W p r size k x w) (s : ByteArray) (hk : k ≤ 100) (hs : s.size ≤ 300) :
    Calls Tryz.prog 8 #[ptrTo r, .string s] w fun e w' => Kept5 w w' ∧
      (((s.size = 0 ∨ size - x.fin % size < s.size) ∧ e = .returned (.tuple #[.int .i64 0, .int .i64 1]) ∧ Pl W p r size (k + 1) x w') ∨
      (s.size ≠ 0 ∧ s.size ≤ size - x.fin % size ∧ e = .returned (.tuple #[.int .i64 (x.fin : Int), .int .i64 0]) ∧ Pl W p r size (k + 1) ⟨x.b ++ s, x.start, x.synced, true⟩ w')) := by
  obtain ⟨m, D, R, F, v, h1, ⟨a1, a2, a3, a4, a5, a6⟩, h3, h4, h5, h6, h7⟩ := h.at_
  have hroom := h1.holds.ok.roomMod
  rw [a2, a5] at hroom
  have hz := h1.holds.ok.room
  have hsz := h1.holds.ok.size
  refine (h1.append s (by omega) (by omega) (fun _ _ => ⟨by omega, by omega⟩) (by rw [a1]; decide)).mono ?_
  rintro e w' (⟨hb, rfl, F', v', hL, hS, hO⟩ | ⟨h8, h9, rfl, D', R', ⟨F', v', hL, hS, hO⟩, e1, e2, e3, e4, e5, e6, e7⟩)
  · refine ⟨kept_next h1.seg hS, .inl ⟨by omega, rfl, m, D, R, F', v', hL, ⟨a1, a2, a3, a4, a5, a6⟩, h3, h4, h5, by omega, by omega⟩⟩
  · refine ⟨kept_next h1.seg hS, .inr ⟨h8, by omega, by rw [a5], m + s.size + 1, D', R', F', v', by rw [toList_app]; exact hL, ⟨e3.trans a1, e4.trans a2, e5.trans a3, e6.trans a4, ?_, (decide_eq_true e2).symm⟩, e1, h4.only (by rw [← a1, ← e3]; exact hO), ?_, ?_, by omega⟩⟩
    · show R'.fin = x.start + (x.b ++ s).size
      rw [ByteArray.size_append, e7, a5]; unfold XS.fin; omega
    · show x.synced ≤ x.start + (x.b ++ s).size
      rw [ByteArray.size_append]; unfold XS.fin at h5; omega
    · show x.start + (x.b ++ s).size ≤ _
      rw [ByteArray.size_append]; unfold XS.fin at h6; omega
theorem Pl.sync (h : Pl W p r size k x w) (hk : k ≤ 100) :
    Calls Tryz.prog 10 #[ptrTo r] w fun e w' => Kept5 w w' ∧ e = .returned (.int .i64 0) ∧ Pl W p r size (k + 1) ⟨x.b, x.start, x.fin, x.any⟩ w' := by
  obtain ⟨m, D, R, F, v, h1, ⟨a1, a2, a3, a4, a5, a6⟩, h3, h4, h5, h6, h7⟩ := h.at_
  refine (h1.sync (by omega) (by omega)).mono ?_
  rintro e w' ⟨rfl, D', F', v', hL, hS, hO⟩
  exact ⟨kept_next h1.seg hS, rfl, m, D', R.clean, F', v', ⟨hL.seg.mono (Nat.le_succ k), hL.holds, hL.able⟩, ⟨a1, a2, a3, a5, a5, a6⟩, h3, h4.only (by rw [← a1]; exact hO), Nat.le_refl _, by show x.fin ≤ _; omega, by omega⟩
theorem Pl.open (h : Pl W p r size k x w) (hk : k ≤ 100) :
    Calls Tryz.prog 6 #[ptrTo p, .string logN, .int .i64 (size : Int)] w fun e w' => Kept5 w w' ∧ ∃ r', e = .returned (.tuple #[ptrTo r', .int .i64 0]) ∧ Pl W p r' size (k + 1) ⟨x.b, x.start, x.start, x.any⟩ w' := by
  obtain ⟨m, D, R, F, v, h1, ⟨a1, a2, a3, a4, a5, a6⟩, h3, h4, h5, h6, h7⟩ := h.at_
  have ho := open_law h1.seg.disk h1.seg.tab h1.seg.calm h1.seg.fW (by omega) h1.able (by omega) h1.holds
  rw [a1, a2] at ho
  refine Calls.mono ho ?_
  rintro e w' ⟨r', F', v', rfl, hr, hL, hv, hs⟩
  refine ⟨fun T hT g cs hg => ?_, r', rfl, m, D, R.anew, F', v', ⟨hL.seg.mono (Nat.le_succ k), hL.holds, hL.able⟩, ⟨a1, a2, a3, a3, a5, a6⟩, h3, h4, ?_, by show x.fin ≤ _; omega, by omega⟩
  · rw [hs.keeps.block g (heap_lt hg) (oth_disk hT hg h1.seg.disk)]; exact hg
  · show x.start ≤ x.start + x.b.size
    omega
end
end Go.Proofs.YtlnbehbipoahhaaGreatDoor.splay

namespace Go.Proofs.YtlnbehbipoahhaaGreatDoor.splay
open Go.ChangeShapes Go.WideShapes Go.ChangeAt Go.RowKit
open Go.Proofs.YtlnbehbipoahhaaGreatDoor.dk Go.Proofs.YtlnbehbipoahhaaGreatDoor.sg
section
variable {W w w' : World} {p r n c m k size g : Nat} {D D' : DiskS} {R R' : RowS} {F F' : Nat → Prop} {v v' : Value} {x : XS}
def cutB (b : ByteArray) (j : Nat) : ByteArray := bA (b.data.toList.take j)
theorem Pl.cut (h : Pl W p r size k x w) (hk : k ≤ 100) (a : Int) :
    Calls Tryz.prog 11 #[ptrTo r, .int .i64 a] w fun e w' => Kept5 w w' ∧
      (((a < x.start ∨ (x.fin : Int) < a) ∧ e = .returned (.int .i64 2) ∧ Pl W p r size (k + 1) x w') ∨
      (∃ j : Nat, a = j ∧ x.start ≤ j ∧ j ≤ x.fin ∧ e = .returned (.int .i64 0) ∧ Pl W p r size (k + 1) ⟨cutB x.b (j - x.start), x.start, min x.synced j, x.any⟩ w')) := by
  obtain ⟨m, D, R, F, v, h1, ⟨a1, a2, a3, a4, a5, a6⟩, h3, h4, h5, h6, h7⟩ := h.at_
  refine (h1.cut (by omega) a).mono ?_
  rintro e w' (⟨hb, rfl, F', v', hL, hS, hO⟩ | ⟨j, rfl, h8, h9, rfl, D', R', ⟨F', v', hL, hS, hO⟩, e1, e2, e3, e4, e5, e6, e7⟩)
  · exact ⟨kept_next h1.seg hS, .inl ⟨by omega, rfl, m, D, R, F', v', ⟨hL.seg.mono (Nat.le_succ k), hL.holds, hL.able⟩, ⟨a1, a2, a3, a4, a5, a6⟩, h3, h4, h5, by omega, by omega⟩⟩
  · have hsz : (cutB x.b (j - x.start)).size = j - x.start := by
      unfold cutB
      rw [bA_size, List.length_take, size_toList]
      unfold XS.fin at a5
      omega
    refine ⟨kept_next h1.seg hS, .inr ⟨j, rfl, by omega, by omega, rfl, m, D', R', F', v', ⟨hL.seg.mono (Nat.le_succ k), by rw [← a3]; exact hL.holds, hL.able⟩, ⟨e2.trans a1, e3.trans a2, e4.trans a3, by rw [e5, a4], ?_, ?_⟩, e1, h4.only (by rw [← a1, ← e2]; exact hO), ?_, ?_, by omega⟩⟩
    · show R'.fin = x.start + (cutB x.b (j - x.start)).size
      rw [hsz, e6]; omega
    · show x.any = decide (0 < R'.cnt)
      rw [a6]
      congr 1
      exact propext ⟨fun h => by omega, fun h => by omega⟩
    · show min x.synced j ≤ x.start + (cutB x.b (j - x.start)).size
      rw [hsz]; omega
    · show x.start + (cutB x.b (j - x.start)).size ≤ _
      rw [hsz]; omega
def dropB (b : ByteArray) (j : Nat) : ByteArray := bA (b.data.toList.drop j)
theorem Pl.drop (h : Pl W p r size k x w) (hk : k ≤ 100) :
    Calls Tryz.prog 12 #[ptrTo r] w fun e w' => Kept5 w w' ∧
      ((¬ x.start + size < x.fin ∧ e = .returned (.tuple #[.int .i64 0, .int .i64 9]) ∧ Pl W p r size (k + 1) x w') ∨
      (x.start + size < x.fin ∧ e = .returned (.tuple #[.int .i64 ((x.start + size : Nat) : Int), .int .i64 0]) ∧ Pl W p r size (k + 1) ⟨dropB x.b size, x.start + size, max x.synced (x.start + size), x.any⟩ w')) := by
  obtain ⟨m, D, R, F, v, h1, ⟨a1, a2, a3, a4, a5, a6⟩, h3, h4, h5, h6, h7⟩ := h.at_
  have h2 := two_iff h1.holds.ok h3
  rw [a2, a3, a5] at h2
  refine (h1.drop (by omega)).mono ?_
  rintro e w' (⟨hb, rfl, F', v', hL, hS, hO⟩ | ⟨hb, rfl, D', F', v', hL, hS, hO⟩)
  · exact ⟨kept_next h1.seg hS, .inl ⟨fun h => by have := h2.2 h; omega, rfl, m, D, R, F', v', ⟨hL.seg.mono (Nat.le_succ k), hL.holds, hL.able⟩, ⟨a1, a2, a3, a4, a5, a6⟩, h3, h4, h5, by omega, by omega⟩⟩
  · have hl := h2.1 hb
    have hsz : (dropB x.b size).size = x.b.size - size := by unfold dropB; rw [bA_size, List.length_drop, size_toList]
    unfold XS.fin at hl a5 h5 h6
    refine ⟨kept_next h1.seg hS, .inr ⟨hl, by rw [a2, a3], m, D', R.rest, F', v', ⟨hL.seg.mono (Nat.le_succ k), by rw [← a2]; exact hL.holds, hL.able⟩, ⟨a1, a2, ?_, ?_, ?_, ?_⟩, Tight.rest hb h3, h4.only (by rw [← a1]; exact hO), ?_, ?_, by omega⟩⟩
    · show R.start + R.size = _
      rw [a2, a3]
    · show max R.synced (R.start + R.size) = _
      rw [a2, a3, a4]
    · show R.fin = x.start + size + (dropB x.b size).size
      rw [hsz]; omega
    · show x.any = decide (0 < R.cnt - 1)
      rw [a6]
      congr 1
      exact propext ⟨fun h => by omega, fun h => by omega⟩
    · show max x.synced (x.start + size) ≤ x.start + size + (dropB x.b size).size
      rw [hsz]; omega
    · show x.start + size + (dropB x.b size).size ≤ _
      rw [hsz]; omega
def InX (size : Nat) (x : XS) (a q : Int) : Prop := (x.start : Int) ≤ a ∧ a ≤ x.fin ∧ 0 ≤ q ∧ q ≤ x.fin - a ∧ (q = 0 ∨ q ≤ size - a % size)
theorem Pl.read (h : Pl W p r size k x w) (a q : Int) :
    Calls Tryz.prog 9 #[ptrTo r, .int .i64 a, .int .i64 q] w fun e w' => Calm w w' ∧
      ((¬ InX size x a q ∧ e = .returned (.tuple #[.string ⟨#[]⟩, .int .i64 2])) ∨
      (InX size x a q ∧ e = .returned (.tuple #[.string (bA ((x.b.data.toList.drop (a - x.start).toNat).take q.toNat)), .int .i64 0]))) := by
  obtain ⟨m, D, R, F, v, h1, ⟨a1, a2, a3, a4, a5, a6⟩, h3, h4, h5, h6, h7⟩ := h.at_
  have hin : ReadIn R a q ↔ InX size x a q := by unfold ReadIn InX; rw [a2, a3, a5]
  refine (Read_any a q w h1.seg).mono ?_
  rintro e w' ⟨rfl, hc⟩
  by_cases hi : ReadIn R a q
  · rw [read_in h1.holds h1.able.alive hi, a3]
    exact ⟨hc, .inr ⟨hin.1 hi, rfl⟩⟩
  · rw [read_out h1.holds.ok h1.able.alive hi]
    exact ⟨hc, .inl ⟨fun h => hi (hin.2 h), rfl⟩⟩
theorem Pl.begin_ (h : Pl W p r size k x w) : Calls Tryz.prog 14 #[ptrTo r] w fun e w' => e = .returned (.int .i64 (x.start : Int)) ∧ Calm w w' := by
  obtain ⟨m, D, R, F, v, h1, ⟨a1, a2, a3, a4, a5, a6⟩, _⟩ := h.at_
  rw [← a3]
  exact (Begin_any w h1.seg.row).mono fun _ _ ⟨he, hw⟩ => ⟨he, hw ▸ .refl _⟩
theorem Pl.end_ (h : Pl W p r size k x w) : Calls Tryz.prog 15 #[ptrTo r] w fun e w' => e = .returned (.int .i64 (x.fin : Int)) ∧ Calm w w' := by
  obtain ⟨m, D, R, F, v, h1, ⟨a1, a2, a3, a4, a5, a6⟩, _⟩ := h.at_
  rw [← a5]
  exact (End_any w h1.seg.row).mono fun _ _ ⟨he, hw⟩ => ⟨he, hw ▸ .refl _⟩
theorem Pl.synced_ (h : Pl W p r size k x w) : Calls Tryz.prog 16 #[ptrTo r] w fun e w' => e = .returned (.int .i64 (x.synced : Int)) ∧ Calm w w' := by
  obtain ⟨m, D, R, F, v, h1, ⟨a1, a2, a3, a4, a5, a6⟩, _⟩ := h.at_
  rw [← a4]
  exact (Synced_any w h1.seg.row).mono fun _ _ ⟨he, hw⟩ => ⟨he, hw ▸ .refl _⟩
theorem Pl.room (h : Pl W p r size k x w) : Calls Tryz.prog 17 #[ptrTo r] w fun e w' => e = .returned (.int .i64 ((size - x.fin % size : Nat) : Int)) ∧ Calm w w' := by
  obtain ⟨m, D, R, F, v, h1, ⟨a1, a2, a3, a4, a5, a6⟩, _⟩ := h.at_
  have hroom := h1.holds.ok.roomMod
  rw [a2, a5] at hroom
  rw [← hroom]
  exact (Room_row w h1.seg.row).mono fun _ _ ⟨he, q, hw⟩ => ⟨he, hw ▸ (Calm.refl w).drewN q⟩
theorem Pl.left (h : Pl W p r size k x w) : Calls Tryz.prog 18 #[ptrTo r, .int .i64 (x.start : Int)] w fun e w' => e = .returned (.int .i64 ((if x.start < x.fin then min (size - x.start % size) x.b.size else 0 : Nat) : Int)) ∧ Calm w w' := by
  obtain ⟨m, D, R, F, v, h1, ⟨a1, a2, a3, a4, a5, a6⟩, _⟩ := h.at_
  have hl := left_start h1.holds.ok h1.holds.size
  rw [a2, a3, a5, size_toList] at hl
  rw [← hl]
  exact (Left_any (x.start : Int) w h1.seg.row).mono fun _ _ ⟨he, q, hw⟩ => ⟨he, hw ▸ (Calm.refl w).drewN q⟩
theorem Pl.files (h : Pl W p r size k x w) (hk : k ≤ 101) :
    Calls Tryz.prog 19 #[ptrTo p, .int .i64 (size : Int), .agg #[.string x.b, .int .i64 (x.start : Int), .int .i64 (x.synced : Int), .bool x.any]] w fun e w' => e = .returned (.bool true) ∧ Calm w w' := by
  obtain ⟨m, D, R, F, v, h1, ⟨a1, a2, a3, a4, a5, a6⟩, h3, h4, h5, h6, h7⟩ := h.at_
  have hz := h1.holds.ok.size
  have hcnt : R.cnt ≤ 10000 := by
    rcases Nat.eq_zero_or_pos R.cnt with h0 | h0
    · omega
    · have h8 := (h1.holds.ok.fin h0).1
      rw [lastp_eq] at h8
      have h9 := Nat.mul_le_mul_left (R.cnt - 1) hz.1
      omega
  have := files_any w h1.seg.disk h1.holds h1.able h3 a1 (fun s hs => by rw [a1]; exact h4 s hs) x.synced x.b (ba_ext rfl) hcnt (by omega) (by omega)
  rw [a2, a3, ← a6] at this
  exact this
end
end Go.Proofs.YtlnbehbipoahhaaGreatDoor.splay
