/- TlogTells: whatever is put, and however the hand goes: each record is told by just one Next, that of the second at which it is due, in the order in which they were put; as many wait as were put, and not told. No condition. -/
import Derived.Test.YtccbfekajbnehaaRows
import Derived.WalkKit
import Derived.ProofKit
import Derived.OpenShut
import Derived.Handy
import Derived.Deep.LoopGhost
import Derived.Lib.Hide
import Derived.Lib.Strings
import Derived.SizedLaws
import Derived.Maps.Own
import Derived.Maps.OwnOps
import Derived.Maps.OwnSet
import Derived.Maps.RangeWalk
import Derived.Deep.QuietTactic
import Derived.BigQuiet
import Derived.Deep.RegionHeld3
import Derived.Lib.ConvBytes
import Derived.Lib.AppendZeros
import Derived.Lib.AppendZerosOnto
import Derived.Lib.LazyBuf
import Derived.Shelf.Abstract
import Derived.LaidEql
import Derived.Lib.SliceRun
import Derived.StillTailTactics
import Derived.Deep.Slices
import Derived.Shelf.SlIter.Nil
import Derived.Ground.GgzProg
import Derived.Shelf.SortM.Plain
import Derived.Shelf.SortM.SortNone
import Derived.Ground.SlgmProg
import Derived.Shelf.SlicesE.DeleteFunc
import Derived.Ground.SlgfProg
import Derived.Test.YtccbfekajbnehaaProg
import Derived.Shelf.Strings.Builder1
import Derived.Shelf.Small.Bits
import Derived.Shelf.Strings.BuilderF
import Derived.Shelf.Strings.BuilderK
import Derived.Shelf.Strconv.Itoa0
import Derived.Shelf.Sort.Plain
import Derived.Shelf.Strings.Prefix
import Derived.Shelf.Strings.BuilderCap
import Derived.Shelf.Slices.In.SortNone
import Derived.Shelf.SlicesE.IndexFunc
import Derived.Laws.MakeOwn
import Derived.Lib.Builder
import Derived.Lib.AppendStr
import Derived.Shelf.SlicesQ.Reverse
import Derived.Ground.SlgnProg
import Derived.OwnWalk
import Derived.Deep.CutRange
import Derived.Deep.CutBlock
import Derived.Test.YtccbfekajbnehaaPk18
namespace Go.Proofs.Ytccbfekajbnehaa.ttells
open Go.ChangeShapes Go.WideShapes Go.ChangeAt Go.RowKit
open Go.Proofs.Ytccbfekajbnehaa.dk Go.Proofs.Ytccbfekajbnehaa.tl Go.Proofs.Ytccbfekajbnehaa.wh

theorem NewBad_tl (p : Nat) (t : Int) (w : World) (h : t < 0 ∨ 1099511627776 < t) :
    Calls Try.prog 7 #[ptrTo p, .int .i64 t] w fun e w' => e = .returned (.tuple #[.pointer none, .int .i64 1]) ∧ w = w' := by
  have hh := box (NewBad_any (ptrTo p) t w (.inr ⟨p, rfl, h⟩))
  clear h
  go_enter Try.func7, Try.ntmps7
  go_wp2_with fail
  refine hh.out.mono ?_
  rintro e w1 ⟨rfl, rfl⟩
  go_wp2_with fail
  go_ret2
  exact ⟨rfl, rfl⟩
set_option maxRecDepth 100000 in
theorem prods : ∀ p, p ≤ 200 → p * (200 - p) ≤ 10000 := by decide
theorem room_at {k puts secs : Nat} (hk : k ≤ 200) (hp : puts ≤ k) (hs : secs ≤ 300 * (k - puts)) : Room 16777216 puts secs := by
  have h1 := prods puts (by omega)
  have h2 : puts * secs ≤ puts * (300 * (200 - puts)) := Nat.mul_le_mul_left _ (by omega)
  have h3 : puts * (300 * (200 - puts)) = 300 * (puts * (200 - puts)) := by rw [Nat.mul_left_comm]
  exact ⟨by omega, by omega, by omega⟩
/-- What Put tells of a pair. -/
def putCode (t od op : Int) : Int := if od < 0 ∨ 1099511627776 < od ∨ op < 0 ∨ 1099511627776 < op then 1 else if od ≤ t then 16 else 0
abbrev wantL (P : List (Nat × Nat)) : List Int := P.map fun x => (x.2 : Int)
theorem take_filter (P : List (Nat × Nat)) (f : Nat × Nat → Bool) (j : Nat) (hj : j < P.length) : (P.take (j + 1)).filter f = (P.take j).filter f ++ if f P[j] then [P[j]] else [] := by
  rw [List.take_succ_eq_append_getElem hj, List.filter_append]
  congr 1
  cases h : f P[j]
  · rw [List.filter_cons_of_neg (by rw [h]; exact Bool.false_ne_true)]; rfl
  · rw [List.filter_cons_of_pos h]; rfl
theorem ints_shape {w : World} {B : Nat} {v : Value} {out : List Int} (h : w.ownsRow B 3 1 v out.length (intRow out)) : ∃ a c, v = .slice a out.length c := by
  rcases h.2 with ⟨rfl, h0⟩ | ⟨g, cap, cur, rfl, _⟩
  · exact ⟨none, 0, by rw [h0]⟩
  · exact ⟨_, _, rfl⟩

set_option maxRecDepth 100000 in
set_option maxHeartbeats 60000000 in
theorem walk (W : World) (c : Int) (hwf : (Lit.int .i64 c).wf = true) (v : Value) (l : List tl.OpS) (r : RowsAt tl.OpR 3 W v l) :
    Calls Try.prog 4 #[.int .i64 c, v] W fun e W' => e = .returned (.bool true) ∧ Calm W W' := by
  obtain ⟨a, cap, rfl, hml, hel⟩ := tl.RowsAt.ops r
  have Hel := box hel
  have hc : -9223372036854775808 ≤ c ∧ c ≤ 9223372036854775807 := by unfold Lit.wf at hwf; simp [IntKind.min, IntKind.max, IntKind.bits, IntKind.signed] at hwf; omega
  clear hwf hel r
  obtain ⟨hc0, hc1⟩ := hc
  unfold maxLen at hml
  go_enter Try.func4, Try.ntmps4
  go_wp2_with fail
  refine (tl.awake_any _).mono ?_
  rintro e w1 ⟨rfl, hca⟩
  have O1 := box ((Owns.refl W).calm' hca)
  clear hca
  by_cases h200 : 200 < l.length
  · go_wp2_with fail
    go_ret
    exact ⟨rfl, O1.out.calm⟩
  · go_wp2_with fail
    refine (New_ok _ 16777216).mono ?_
    rintro e w2 ⟨p, F, rfl, h2, hc2, hF2⟩
    have H2 := box h2
    have O2 := box (O1.out.new hc2 hF2)
    clear h2 hc2 hF2
    by_cases hbad : c < 0 ∨ 1099511627776 < c
    · go_wp2_with fail
      refine (NewBad_tl p c _ hbad).mono ?_
      rintro e w3 ⟨rfl, rfl⟩
      have hbad : c < 0 ∨ (0 ≤ c ∧ 1099511627776 < c) := by omega
      rcases hbad with h | ⟨h1, h2⟩
      all_goals
        go_wp2_with fail
        go_ret
        exact ⟨ret_bool (by simp), O2.out.calm⟩
    · obtain ⟨c0, rfl⟩ : ∃ c0 : Nat, c = c0 := ⟨c.toNat, by omega⟩
      have hg1 : c0 ≤ 1099511627776 := by omega
      have hn : l.length ≤ 200 := by omega
      clear hbad h200 hc0 hc1 hml
      go_wp2_with fail
      refine (TlS.new (w0 := W) (.inr (.inr rfl)) c0 H2.out hg1 O2.out).mono ?_
      rintro e w3 ⟨q, x, rfl, h3⟩
      have H3 := box h3
      clear h3 H2 O2 O1
      go_wp2_with fail
      go_loopw [7, 8, 53] (fun tv ov iv wr => ∃ (k t puts secs : Nat) (P : List (Nat × Nat)), k ≤ l.length ∧ iv = .int .i64 k ∧ tv = .int .i64 t ∧ puts ≤ k ∧ secs ≤ 300 * (k - puts) ∧ t ≤ 1099511627776 + secs ∧ TlS 16777216 p q x P t puts secs W wr ∧ opRow W.heap.size wr ov P ∧ P.length ≤ k) (fun _ _ iv _ => l.length - (intOf iv).toNat)
      case atStart => exact ⟨0, c0, 0, 0, [], Nat.zero_le _, rfl, rfl, Nat.zero_le _, Nat.zero_le _, hg1, H3.out, World.ownsRow_nil _ _ _ _, Nat.zero_le _⟩
      case round =>
        clear H3
        obtain ⟨k, t, puts, secs, P, hk, rfl, rfl, hp, hs, ht, hS, hR, hP⟩ := hrel
        have HS := box hS
        have HR := box hR
        obtain ⟨wa, wcap, hwv, _⟩ := hR.shape
        subst hwv
        have HN := box (And.intro hp (And.intro hs (And.intro ht hP)))
        have ht9 : t ≤ 1099511687776 := by omega
        clear hS hR hp hs ht hP
        obtain ⟨wo, hwo⟩ : ∃ wo : World, wo = wr := ⟨_, rfl⟩
        subst hwo
        by_cases hlt : k < l.length
        · obtain ⟨lb, loff, rfl, hlb, hcl0, hcl1, hcl2, z0, z1, z2⟩ := Hel.out k hlt
          have Cw := box HS.out.owns
          have d0 := (Cw.out.cell (p := ⟨lb, loff + k * 3, none⟩) hlb).trans hcl0
          have d1 := (Cw.out.cell (p := ⟨lb, loff + k * 3 + 1, none⟩) hlb).trans hcl1
          have d2 := (Cw.out.cell (p := ⟨lb, loff + k * 3 + 2, none⟩) hlb).trans hcl2
          have hlbo := Nat.lt_of_lt_of_le hlb Cw.out.size
          obtain ⟨⟨ok, od, op⟩, ho⟩ : ∃ z, l[k] = z := ⟨_, rfl⟩
          rw [ho] at d0 d1 d2 z0 z1 z2
          clear ho hcl0 hcl1 hcl2
          simp only at d0 d1 d2 z0 z1 z2
          have Ha := box ((Calm.refl wo).alloc (.cells #[.int .i64 ok, .int .i64 od, .int .i64 op] 40))
          have Hnew := box (heap_new wo (.cells #[.int .i64 ok, .int .i64 od, .int .i64 op] 40))
          have HSa := box (HS.out.calm Ha.out)
          have HRa := box (row_frame HR.out other_op (Frame.calm Ha.out))
          go_upto_block 2 with fail
          go_cut [7, 8, 53] from 53 to 219 (fun tv ov iv wx => iv = .int .i64 k ∧ ∃ (t puts secs : Nat) (P : List (Nat × Nat)), tv = .int .i64 t ∧ (puts ≤ k + 1 ∧ secs ≤ 300 * (k + 1 - puts) ∧ t ≤ 1099511627776 + secs ∧ P.length ≤ k + 1) ∧ TlS 16777216 p q x P t puts secs W wx ∧ opRow W.heap.size wx ov P)
          case rest =>
            clear HS HR HSa HRa Hnew Ha d0 d1 d2 Cw HN ht9
            obtain ⟨rfl, t, puts, secs, P, rfl, hN, hS, hR⟩ := hcut
            have HN := box hN
            have HS := box hS
            have HR := box hR
            obtain ⟨wa, wcap, hwv, _⟩ := hR.shape
            subst hwv
            clear hN hS hR
            go_wp2_with fail
            refine (HS.out.many (room_at (k := k + 1) (by omega) HN.out.1 HN.out.2.1)).mono ?_
            rintro e w8 ⟨rfl, hc8⟩
            have HS8 := box (HS.out.calm hc8)
            have HR8 := box (row_frame HR.out other_op (Frame.calm hc8))
            clear hc8
            go_wp2_with fail
            refine HS8.out.hand.mono ?_
            rintro e w9 ⟨rfl, rfl⟩
            go_wp2_with fail
            go_roundw
            case rel => exact ⟨k + 1, t, puts, secs, P, by omega, by go_num, rfl, HN.out.1, HN.out.2.1, HN.out.2.2.1, HS8.out, HR8.out, HN.out.2.2.2⟩
            case measure => simp [intOf]; omega
          case first =>
           by_cases hk0 : ok = 0
           · subst hk0
             as_aux_lemma =>
               go_upto_block 3 with fail
               go_cut [11, 53] from 53 to 219 (fun ev iv wx => iv = .int .i64 k ∧ ev = .int .i64 (putCode t od op) ∧ wx = wo.alloc (.cells #[.int .i64 0, .int .i64 od, .int .i64 op] 40))
               case first =>
                 by_cases hbad : od < 0 ∨ 1099511627776 < od ∨ op < 0 ∨ 1099511627776 < op
                 · have hcode := box (show putCode t od op = 1 by unfold putCode; rw [if_pos hbad])
                   have hbad : od < 0 ∨ (0 ≤ od ∧ 1099511627776 < od) ∨ (0 ≤ od ∧ od ≤ 1099511627776 ∧ op < 0) ∨ (0 ≤ od ∧ od ≤ 1099511627776 ∧ 0 ≤ op ∧ 1099511627776 < op) := by omega
                   rcases hbad with b1 | ⟨b1, b2⟩ | ⟨b1, b2, b3⟩ | ⟨b1, b2, b3, b4⟩
                   all_goals
                     go_wp2_with fail
                     go_meet
                     exact ⟨rfl, val_int hcode.out.symm, rfl⟩
                 · have hg : 0 ≤ od ∧ od ≤ 1099511627776 ∧ 0 ≤ op ∧ op ≤ 1099511627776 := by omega
                   obtain ⟨g1, g2, g3, g4⟩ := hg
                   by_cases hlate : od ≤ (t : Int)
                   · have hcode := box (show putCode t od op = 16 by unfold putCode; rw [if_neg hbad, if_pos hlate])
                     clear hbad
                     go_wp2_with fail
                     go_meet
                     exact ⟨rfl, val_int hcode.out.symm, rfl⟩
                   · have hcode := box (show putCode t od op = 0 by unfold putCode; rw [if_neg hbad, if_neg hlate])
                     clear hbad
                     go_wp2_with fail
                     go_meet
                     exact ⟨rfl, val_int hcode.out.symm, rfl⟩
               case rest =>
                 obtain ⟨rfl, rfl, rfl⟩ := hcut
                 by_cases hbad : od < 0 ∨ 1099511627776 < od ∨ op < 0 ∨ 1099511627776 < op
                 · have hcode : putCode t od op = 1 := by unfold putCode; rw [if_pos hbad]
                   rw [hcode]
                   have hput := box (PutArg_any od op x (wo.alloc (.cells #[.int .i64 0, .int .i64 od, .int .i64 op] 40)) (by omega))
                   clear hbad hcode
                   go_wp2_with fail
                   refine hput.out.mono ?_
                   rintro e w5 ⟨rfl, rfl⟩
                   go_wp2_with fail
                   go_meet
                   exact ⟨rfl, t, puts, secs, P, rfl, by have := HN.out; omega, HSa.out, HRa.out⟩
                 · have hg : 0 ≤ od ∧ od ≤ 1099511627776 ∧ 0 ≤ op ∧ op ≤ 1099511627776 := by omega
                   by_cases hlate : od ≤ (t : Int)
                   · have hcode : putCode t od op = 16 := by unfold putCode; rw [if_neg hbad, if_pos hlate]
                     rw [hcode]
                     have hput := box (HSa.out.late od op ⟨hg.1, hg.2.1⟩ ⟨hg.2.2.1, hg.2.2.2⟩ hlate)
                     clear hbad hcode hg hlate
                     go_wp2_with fail
                     refine hput.out.mono ?_
                     rintro e w5 ⟨rfl, rfl⟩
                     go_wp2_with fail
                     go_meet
                     exact ⟨rfl, t, puts, secs, P, rfl, by have := HN.out; omega, HSa.out, HRa.out⟩
                   · have hcode : putCode t od op = 0 := by unfold putCode; rw [if_neg hbad, if_neg hlate]
                     rw [hcode]
                     clear hcode hbad
                     obtain ⟨d, rfl⟩ : ∃ d : Nat, od = d := ⟨od.toNat, by omega⟩
                     obtain ⟨m, rfl⟩ : ∃ m : Nat, op = m := ⟨op.toNat, by omega⟩
                     have hput := box (HSa.out.put (room_at (k := k) (by omega) HN.out.1 HN.out.2.1) d m (by omega) (by omega) (by omega))
                     go_wp2_with fail
                     refine hput.out.mono ?_
                     rintro e w5 ⟨rfl, h5, hF5⟩
                     have j5 := (hF5 _ (.inl ⟨_, _, other_op, Hnew.out⟩)).trans Hnew.out
                     have r0 := cell_of j5 0
                     have r1 := cell_of j5 1
                     have r2 := cell_of j5 2
                     have jlt := heap_lt j5
                     have HR5 := row_frame HRa.out other_op hF5
                     obtain ⟨v', w6, happ, hrow6, hk6⟩ := append_op W.heap.size w5 _ P (d, m) HR5 h5.owns.size (by have := HN.out; omega) 38
                     have HS6 := box (h5.row HR5 other_op (Nat.le_refl _) hk6)
                     have HR6 := box hrow6
                     obtain ⟨ua, ucap, hv, _⟩ := hrow6.shape
                     rw [List.length_append, List.length_singleton] at hv
                     subst hv
                     have Happ := box happ
                     clear h5 hF5 j5 HR5 hrow6 hk6 happ
                     go_wp2_with (first | (at_builtin; refine Lib.wpList_append_run _ rfl _ _ _ _ rfl _ _ rfl rfl _ _ Happ.out ?_) | fail)
                     go_meet
                     exact ⟨rfl, t, puts + 1, secs, P ++ [(d, m)], rfl, by have := HN.out; rw [List.length_append, List.length_singleton]; omega, HS6.out, HR6.out⟩
           · by_cases hk1 : ok = 1
             · subst hk1
               by_cases hfar : (t : Int) + 300 < od
               · go_wp2_with fail
                 go_ret
                 exact ⟨rfl, HSa.out.owns⟩
               · go_wp2_with fail
                 go_loopw [7, 8] (fun tv ov wr => ∃ (t2 secs2 : Nat) (P2 : List (Nat × Nat)), tv = .int .i64 t2 ∧ t ≤ t2 ∧ (t2 = t ∨ (t2 : Int) ≤ od) ∧ secs2 + t = secs + t2 ∧ TlS 16777216 p q x P2 t2 puts secs2 W wr ∧ opRow W.heap.size wr ov P2 ∧ P2.length ≤ k ∧ wr.heap[wo.heap.size]? = some (.cells #[.int .i64 1, .int .i64 od, .int .i64 op] 40 (0, 0))) (fun tv _ _ => (od - intOf tv).toNat)
                 case atStart => exact ⟨t, secs, P, rfl, Nat.le_refl _, .inl rfl, rfl, HSa.out, HRa.out, HN.out.2.2.2, Hnew.out⟩
                 case round =>
                   clear HS HR HSa HRa Hnew Ha d0 d1 d2 Cw
                   obtain ⟨t2, secs2, P2, rfl, ht2, hto, hsec, hS2, hR2, hP2, hJ2⟩ := hrel
                   have HS := box hS2
                   have HR := box hR2
                   have HJ := box hJ2
                   obtain ⟨wa2, wcap2, hwv, _⟩ := hR2.shape
                   subst hwv
                   have r0 := cell_of hJ2 0
                   have r1 := cell_of hJ2 1
                   have r2 := cell_of hJ2 2
                   have jlt := heap_lt hJ2
                   have HM := box (And.intro ht2 (And.intro hto (And.intro hsec (And.intro hP2 (And.intro hfar HN.out)))))
                   have ht8 : t2 ≤ 1099511688077 := by omega
                   have hP9 : P2.length ≤ 200 := by have := HN.out; omega
                   have HZ : secs2 + 1 ≤ 300 * (k + 1 - puts) ∨ od ≤ (t2 : Int) := by have := HN.out; omega
                   have HZ' := box HZ
                   clear hS2 hR2 hJ2 ht2 hto hsec hP2 HZ
                   obtain ⟨wi, hwi⟩ : ∃ wi : World, wi = wr := ⟨_, rfl⟩
                   subst hwi
                   by_cases hgo : (t2 : Int) < od
                   · have Hwb := box (fun b (hb : (Value.slice wa2 P2.length wcap2).ownBlock = some b) => (HR.out.lt b hb).2)
                     have Hwj := box (heap_lt HJ.out)
                     have Hwi := box HS.out.owns.size
                     go_wp2_with fail
                     go_loopw [12, 13, 114] (fun av bv jv wr => ∃ (j : Nat) (A : List Int) (B : List (Nat × Nat)), j ≤ P2.length ∧ jv = .int .i64 j ∧ Box (A = wantL ((P2.take j).filter fun y => y.1 == t2 + 1)) ∧ Box (B = (P2.take j).filter fun y => !(y.1 == t2 + 1)) ∧ wr.ownsRow W.heap.size 3 1 av A.length (intRow A) ∧ opRow wi.heap.size wr bv B ∧ A.length ≤ j ∧ B.length ≤ j ∧ wi.heap.size ≤ wr.heap.size ∧
                       TlS 16777216 p q x P2 t2 puts secs2 W wr ∧ opRow W.heap.size wr (.slice wa2 P2.length wcap2) P2 ∧ wr.heap[wo.heap.size]? = some (.cells #[.int .i64 1, .int .i64 od, .int .i64 op] 40 (0, 0))) (fun _ _ jv _ => P2.length - (intOf jv).toNat)
                     case atStart => exact ⟨0, [], [], Nat.zero_le _, rfl, box rfl, box rfl, World.ownsRow_nil _ _ _ _, World.ownsRow_nil _ _ _ _, Nat.le_refl _, Nat.le_refl _, Nat.le_refl _, HS.out, HR.out, HJ.out⟩
                     case round =>
                       as_aux_lemma =>
                         clear HS HR HJ r0 r1 r2 jlt
                         obtain ⟨j, A, B, hj, rfl, hA, hB, hrA, hrB, hlA, hlB, hsi, hS3, hR3, hJ3⟩ := hrel
                         have HS := box hS3
                         have HR := box hR3
                         have HJ := box hJ3
                         have HA := box hrA
                         have HB := box hrB
                         obtain ⟨_, _, he, hcells⟩ := hR3.shape
                         cases he
                         have Hcells := box hcells
                         obtain ⟨a3, cap3, hav⟩ := ints_shape hrA
                         subst hav
                         obtain ⟨a4, cap4, hbv, _⟩ := hrB.shape
                         subst hbv
                         have r1 := cell_of hJ3 1
                         have jlt := heap_lt hJ3
                         clear hS3 hR3 hJ3 hrA hrB hcells
                         obtain ⟨wj, hwj⟩ : ∃ wj : World, wj = wr := ⟨_, rfl⟩
                         subst hwj
                         by_cases hjl : j < P2.length
                         · obtain ⟨bb, rfl, hbl, e0, e1, e2⟩ := Hcells.out j hjl
                           have tf := take_filter P2 (fun y => y.1 == t2 + 1) j hjl
                           have tg := take_filter P2 (fun y => !(y.1 == t2 + 1)) j hjl
                           obtain ⟨⟨yd, yp⟩, hy⟩ : ∃ z, P2[j] = z := ⟨_, rfl⟩
                           rw [hy] at tf tg
                           simp only [hy] at e1 e2
                           simp only at tf tg
                           have Hc3 := box ((Calm.refl wj).alloc (.cells #[.int .i64 0, .int .i64 (yd : Int), .int .i64 (yp : Int)] 40))
                           have HSb := box (HS.out.calm Hc3.out)
                           have HRb := box (row_frame HR.out other_op (Frame.calm Hc3.out))
                           have HAb := box (row_frame HA.out other_int (Frame.calm Hc3.out))
                           have HBb := box (row_frame HB.out other_op (Frame.calm Hc3.out))
                           have HJb := box (heap_calm Hc3.out HJ.out)
                           have hsz := HSb.out.owns.size
                           by_cases hyt : yd = t2 + 1
                           · subst hyt
                             obtain ⟨u', w6, happ, hrow6, hk6, _⟩ := append_int2 _ W.heap.size _ A (yp : Int) HAb.out hsz (by omega) 41
                             rw [World.size_alloc] at happ
                             have Happ := box happ
                             have HS6 := box (HSb.out.row HAb.out other_int (Nat.le_refl _) hk6)
                             have HR6 := box (row_apart HRb.out HAb.out (by decide) hk6)
                             have HB6 := box (row_apart HBb.out HAb.out (by decide) hk6)
                             have HJ6 := box (show w6.heap[wo.heap.size]? = _ from (hk6.block _ (heap_lt HJb.out) (fun hf => by
                               obtain ⟨c2, hc2⟩ := own_row HAb.out hf
                               rw [HJb.out] at hc2
                               cases hc2)).trans HJb.out)
                             have HA6 := box hrow6
                             have Hsz6 := box hk6.size
                             have HA' := box (show A ++ [(yp : Int)] = wantL ((P2.take (j + 1)).filter fun y => y.1 == t2 + 1) by
                               rw [tf, if_pos (by simp), hA.out]; unfold wantL; rw [List.map_append]; rfl)
                             have HB' := box (show B = (P2.take (j + 1)).filter fun y => !(y.1 == t2 + 1) by
                               rw [tg, if_neg (by simp), List.append_nil]; exact hB.out)
                             clear happ hk6 hrow6 tf tg
                             go_wp2_with (first | (at_builtin; refine Lib.wpList_append_run _ rfl _ _ _ _ rfl _ _ rfl rfl _ _ Happ.out ?_) | fail)
                             go_roundw
                             case rel => exact ⟨j + 1, A ++ [(yp : Int)], B, by omega, by go_num, HA', HB', HA6.out, HB6.out, by rw [List.length_append, List.length_singleton]; omega, by omega, Nat.le_trans hsi (Nat.le_trans Hc3.out.size Hsz6.out), HS6.out, HR6.out, HJ6.out⟩
                             case measure => simp [intOf]; omega
                           · have hyi : ((yd : Int) == (t2 : Int) + 1) = false := beq_eq_false_iff_ne.2 (by omega)
                             have hyb : (yd == t2 + 1) = false := beq_eq_false_iff_ne.2 hyt
                             obtain ⟨u', w6, happ, hrow6, hk6⟩ := append_op wi.heap.size _ _ B (yd, yp) HBb.out (Nat.le_trans hsi Hc3.out.size) (by omega) 38
                             rw [World.size_alloc] at happ
                             have Happ := box happ
                             have HS6 := box (HSb.out.row HBb.out other_op Hwi.out hk6)
                             have HA6 := box (row_apart HAb.out HBb.out (by decide) hk6)
                             have hfar := fun b hb => (HBb.out.lt b hb).1
                             have HR6 := box (row_same HRb.out (fun g hg => hk6.block g (HRb.out.lt g hg).2 (fun hf => by have := hfar g hf; have := Hwb.out g hg; omega)))
                             have HJ6 := box (show w6.heap[wo.heap.size]? = _ from (hk6.block _ (heap_lt HJb.out) (fun hf => by have := hfar _ hf; have := Hwj.out; omega)).trans HJb.out)
                             have HB6 := box hrow6
                             have Hsz6 := box hk6.size
                             have HA' := box (show A = wantL ((P2.take (j + 1)).filter fun y => y.1 == t2 + 1) by
                               rw [tf, hyb, if_neg Bool.false_ne_true, List.append_nil]; exact hA.out)
                             have HB' := box (show B ++ [(yd, yp)] = (P2.take (j + 1)).filter fun y => !(y.1 == t2 + 1) by
                               rw [tg, hyb, Bool.not_false, if_pos rfl, hB.out])
                             clear happ hk6 hrow6 tf tg hyb hfar
                             go_wp2_with (first | (at_builtin; refine Lib.wpList_append_run _ rfl _ _ _ _ rfl _ _ rfl rfl _ _ Happ.out ?_) | fail)
                             go_roundw
                             case rel => exact ⟨j + 1, A, B ++ [(yd, yp)], by omega, by go_num, HA', HB', HA6.out, HB6.out, by omega, by rw [List.length_append, List.length_singleton]; omega, Nat.le_trans hsi (Nat.le_trans Hc3.out.size Hsz6.out), HS6.out, HR6.out, HJ6.out⟩
                             case measure => simp [intOf]; omega
                         · obtain rfl : j = P2.length := by omega
                           have hA := hA.out
                           have hB := hB.out
                           rw [List.take_length] at hA hB
                           have hBl : B.length ≤ P2.length := by rw [hB]; exact List.length_filter_le _ _
                           have HBe := box hB
                           have HAe := box hA
                           have hnext := box (HS.out.next (room_at (k := k + 1) (by omega) (by have := HN.out; omega) (HZ'.out.resolve_right (by omega))) (by omega) od hgo)
                           rw [← hB] at hnext
                           have r1 := cell_of HJ.out 1
                           have jlt := heap_lt HJ.out
                           clear hA hB
                           go_wp2_with fail
                           refine hnext.out.mono ?_
                           rintro e w7 ⟨gv, L, rfl, hm7, _, hL7, hp7, h7, hF7⟩
                           have HS7 := box h7
                           have HJ7 := box ((hF7 _ (.inl ⟨_, _, other_op, HJ.out⟩)).trans HJ.out)
                           have HB7 := box (row_frame HB.out other_op hF7)
                           have hA7 := row_frame HA.out other_int hF7
                           have hLA : L.map (fun m => (m.rc.place : Int)) = A := by
                             rw [HAe.out, ← hL7, wantL, List.map_map]; rfl
                           have hlen : A.length = L.length := by rw [← hLA, List.length_map]
                           have hIA := (own_ints hA7 (by omega)).1
                           have hdue : ∀ m ∈ L, m.rc.due = t2 + 1 := fun m hm => by
                             have hmem : (m.rc.due, m.rc.place) ∈ P2.filter (fun y => y.1 == t2 + 1) := by rw [← hL7]; exact List.mem_map.2 ⟨m, hm, rfl⟩
                             simpa using (List.mem_filter.1 hmem).2
                           have Hdue := box hdue
                           have HLA := box hLA
                           have Hp7 := box hp7
                           have HM7 := box hm7
                           have HI7 := box hIA
                           obtain ⟨ga, gcap, hgv, _⟩ := hm7
                           subst hgv
                           rw [hlen]
                           have Hlen := box hlen
                           clear h7 hF7 hA7 hLA hIA hL7 hp7 hdue hlen hnext r1 jlt
                           go_wp2_with fail
                           go_loopw [156] (fun iv wr => ∃ i : Nat, i ≤ L.length ∧ iv = .int .i64 i ∧ Calm w7 wr) (fun iv _ => L.length - (intOf iv).toNat)
                           case atStart => exact ⟨0, Nat.zero_le _, rfl, .refl _⟩
                           case round =>
                             as_aux_lemma =>
                               obtain ⟨i, hi, rfl, hc8⟩ := hrel
                               have HC8 := box hc8
                               have hI8 := HI7.out.calm hc8
                               have hM8 := HM7.out.calm hc8
                               clear hc8
                               by_cases hil : i < L.length
                               · obtain ⟨_, _, he, hgc⟩ := hM8
                                 cases he
                                 obtain ⟨gb, rfl, hgl, q0, q1, _, q3⟩ := hgc i hil
                                 obtain ⟨_, _, he, _, hic⟩ := hI8
                                 have hiA : i < A.length := by rw [Hlen.out]; exact hil
                                 obtain ⟨ib, ioff, hia, hil2, q4⟩ := hic i hiA
                                 have hAi : A[i] = (L[i].rc.place : Int) := by
                                   have h1 : (L.map fun m => (m.rc.place : Int))[i]? = A[i]? := by rw [HLA.out]
                                   rw [List.getElem?_eq_getElem hiA, List.getElem?_map, List.getElem?_eq_getElem hil] at h1
                                   exact (Option.some.inj h1).symm
                                 rw [hAi] at q4
                                 have hd := Hdue.out _ (List.getElem_mem hil)
                                 have hpp := Hp7.out _ (List.getElem_mem hil)
                                 obtain ⟨⟨⟨md, mp, mq⟩, ma⟩, hmm⟩ : ∃ z, L[i] = z := ⟨_, rfl⟩
                                 simp only [hmm] at q0 q1 q3 q4 hd hpp
                                 subst hd
                                 have hp1 : ¬ ((mq : Int) < 1) := by omega
                                 have hS8 := HC8.out.size
                                 cases hia
                                 clear hAi hgc hic
                                 go_wp2_with (first | go_quiet (fail) | fail)
                                 go_roundw
                                 case rel => exact ⟨i + 1, by omega, by go_num, HC8.out.drewN _⟩
                                 case measure => simp [intOf]; omega
                               · obtain rfl : i = L.length := by omega
                                 have HS9 := box (HS7.out.calm HC8.out)
                                 have HB9 := box (row_base (row_zero (row_frame HB7.out other_op (Frame.calm HC8.out))) (fun g hg => Nat.le_trans Hwi.out (HB7.out.lt g hg).1))
                                 have HJ9 := box (heap_calm HC8.out HJ7.out)
                                 have hM := HM.out
                                 go_wp2_with fail
                                 go_roundw
                                 case rel => exact ⟨t2 + 1, secs2 + 1, B, val_int (by omega), by omega, by omega, by omega, HS9.out, HB9.out, by omega, HJ9.out⟩
                                 case measure => simp [intOf]; omega
                   · go_wp2_with fail
                     refine (HS.out.stays (by omega) od (by omega)).mono ?_
                     rintro e w5 ⟨rfl, h5, hF5⟩
                     have HS5 := box h5
                     have HR5 := box (row_frame HR.out other_op hF5)
                     clear h5 hF5
                     have HN := box (show puts ≤ k ∧ secs2 ≤ 300 * (k + 1 - puts) ∧ t2 ≤ 1099511627776 + secs2 ∧ P2.length ≤ k by have := HM.out; omega)
                     go_wp2_with fail
                     go_meet
                     exact ⟨rfl, t2, puts, secs2, P2, rfl, by have := HN.out; omega, HS5.out, HR5.out⟩
             · go_wp2_with fail
               go_meet
               exact ⟨rfl, t, puts, secs, P, rfl, by have := HN.out; omega, HSa.out, HRa.out⟩
        · obtain rfl : k = l.length := by omega
          go_wp2_with fail
          go_ret
          exact ⟨rfl, HS.out.owns⟩
end Go.Proofs.Ytccbfekajbnehaa.ttells
