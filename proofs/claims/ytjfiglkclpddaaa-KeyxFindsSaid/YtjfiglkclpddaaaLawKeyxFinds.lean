/- KeyxFinds: whatever is added, in whatever order: the last records of a key's number are found, the last one first, as many as are asked for, up to the first of its bucket that lies below the least; what isn't added is told why. No condition. -/
import Derived.Test.YtjfiglkclpddaaaRows
import Derived.WalkKit
import Derived.ProofKit
import Derived.OpenShut
import Derived.Handy
import Derived.Deep.LoopGhost
import Derived.Lib.Hide
import Derived.Lib.Strings
import Derived.SizedLaws
import Derived.Maps.Own
import Derived.Maps.OwnOps
import Derived.Maps.OwnSet
import Derived.Maps.RangeWalk
import Derived.Deep.QuietTactic
import Derived.BigQuiet
import Derived.Deep.RegionHeld3
import Derived.Lib.ConvBytes
import Derived.Lib.AppendZeros
import Derived.Lib.AppendZerosOnto
import Derived.Lib.LazyBuf
import Derived.Shelf.Abstract
import Derived.LaidEql
import Derived.Lib.SliceRun
import Derived.StillTailTactics
import Derived.Deep.Slices
import Derived.Laws.MakeOwn
import Derived.Shelf.Strings.Builder1
import Derived.Shelf.Small.Bits
import Derived.Shelf.Small.Wraps
import Derived.Shelf.Strings.BuilderF
import Derived.Shelf.Strings.BuilderK
import Derived.Shelf.Strconv.Itoa0
import Derived.Shelf.Sort.Plain
import Derived.Shelf.GgClosure.StringsIndexFunc
import Derived.Ground.GgwProg
import Derived.Shelf.GgClosure.StringsIndexFuncTop
import Derived.Shelf.GgClosure.StringsRunes
import Derived.Shelf.Strings.Prefix
import Derived.Shelf.Strings.BuilderCap
import Derived.Shelf.Slices.In.SortNone
import Derived.Ground.SlgfProg
import Derived.Shelf.SlicesE.IndexFunc
import Derived.Shelf.SlicesE.DeleteFunc
import Derived.Test.YtjfiglkclpddaaaProg
import Derived.Lib.Builder
import Derived.Lib.AppendStr
import Derived.Shelf.SlIter.Nil
import Derived.Ground.GgzProg
import Derived.Shelf.SortM.Plain
import Derived.Shelf.SortM.SortNone
import Derived.Ground.SlgmProg
import Derived.Lib.SmallJoins
import Derived.Test.YtjfiglkclpddaaaPk17
namespace Go.Proofs.Ytjfiglkclpddaaa.kfinds
open Go.ChangeShapes Go.WideShapes Go.ChangeAt Go.RowKit
open Go.Proofs.Ytjfiglkclpddaaa.dk Go.Proofs.Ytjfiglkclpddaaa.nm Go.Proofs.Ytjfiglkclpddaaa.kx

set_option maxRecDepth 100000 in
set_option maxHeartbeats 60000000 in
theorem walk (W : World) (v : Value) (l : List AddS) (r : RowsAt AddR 4 W v l) (q : AddS) (rq : AddR W (Value.agg #[.string q.topic, .string q.key, .int .i64 q.pos, .int .i64 q.born]).cells.toList q) (n : Int × Int) (rn : PairR .i64 W (Value.agg #[.int .i64 n.1, .int .i64 n.2]).cells.toList n) :
    Calls Try.prog 4 #[v, .agg #[.string q.topic, .string q.key, .int .i64 q.pos, .int .i64 q.born], .agg #[.int .i64 n.1, .int .i64 n.2]] W fun e W' => e = .returned (.bool true) ∧ Calm W W' := by
  obtain ⟨a, cap, rfl, hml, hel⟩ := kx.RowsAt.adds r
  have Hel := box hel
  obtain ⟨_, zt, zk, _⟩ := rq
  obtain ⟨qt, qk, qp, qb⟩ := q
  obtain ⟨least, most⟩ := n
  simp only at zt zk
  clear hel r rn
  unfold maxLen at hml zt zk
  have Hb := box (((Calm.refl W).alloc (.cells #[.string qt, .string qk, .int .i64 qp, .int .i64 qb] 39)).alloc (.cells #[.int .i64 least, .int .i64 most] 40))
  have Hq := box (heap_old _ (.cells #[.int .i64 least, .int .i64 most] 40) (heap_new W (.cells #[.string qt, .string qk, .int .i64 qp, .int .i64 qb] 39)))
  have hn := heap_new (W.alloc (.cells #[.string qt, .string qk, .int .i64 qp, .int .i64 qb] 39)) (.cells #[.int .i64 least, .int .i64 most] 40)
  simp only [World.size_alloc] at hn
  have Hn := box hn
  clear hn
  go_enter Try.func4, Try.ntmps4
  go_wp2_with fail
  refine (kx.awake_any _).mono ?_
  rintro e w0 ⟨rfl, hca⟩
  have Cm := box (Hb.out.trans hca)
  have jq := heap_calm hca Hq.out
  have jn := heap_calm hca Hn.out
  have Jq := box jq
  have q0 := cell_of jq 0
  have q1 := cell_of jq 1
  have n0 := cell_of jn 0
  have n1 := cell_of jn 1
  have ql := heap_lt jq
  have nl := heap_lt jn
  clear hca jq jn
  by_cases hx1 : 100 < l.length
  · go_wp2_with (first | go_quiet (fail) | fail)
    go_ret
    exact ⟨rfl, Cm.out.drewN _⟩
  by_cases hx2 : 100 < qk.size
  · go_wp2_with (first | go_quiet (fail) | fail)
    go_ret
    exact ⟨rfl, Cm.out.drewN _⟩
  by_cases hx3 : 100 < qt.size
  · go_wp2_with (first | go_quiet (fail) | fail)
    go_ret
    exact ⟨rfl, Cm.out.drewN _⟩
  · go_wp2_with (first | go_quiet (fail) | fail)
    refine (New_ok _ 1048576).mono ?_
    rintro e w2 ⟨p, F, rfl, h2, hc2, hF2⟩
    have H2 := box h2
    have O2 := box (((Owns.refl w0).calm' ((Calm.refl w0).drewN _)).new hc2 hF2)
    have hl1 : l.length ≤ 100 := by omega
    have hqt : qt.size ≤ 100 := by omega
    have hqk : qk.size ≤ 100 := by omega
    clear h2 hc2 hF2
    go_wp2_with fail
    refine (New_step w0 _ 1048576 (by decide) p F H2.out O2.out).mono ?_
    rintro e w3 ⟨x, rfl, hS3⟩
    have S3 := box hS3
    clear hS3
    go_wp2_with fail
    go_loopw [11, 52] (fun av i wr => ∃ (k : Nat) (s : List Ln × List Nat) (A : List AddS), k ≤ l.length ∧ i = .int .i64 k ∧ KxS x p k w0 wr s ∧ addRow w0.heap.size wr av A ∧ kx.Alike s.1 A ∧ (∀ z ∈ A, z.topic.size ≤ 100 ∧ z.key.size ≤ 100) ∧ A.length ≤ k) (fun _ i _ => l.length - (intOf i).toNat)
    case atStart => exact ⟨0, _, [], Nat.zero_le _, rfl, S3.out, World.ownsRow_nil _ _ _ _, ⟨rfl, fun i hi => absurd hi (Nat.not_lt_zero _)⟩, fun z hz => absurd hz List.not_mem_nil, Nat.le_refl _⟩
    case round =>
      clear S3 H2 O2
      obtain ⟨k, s, A, hk, rfl, hS, hR, hAl, hAs, hAk⟩ := hrel
      have HS := box hS
      have HR := box hR
      have HAl := box hAl
      have HAs := box hAs
      obtain ⟨va, vc, rfl, hcells⟩ := hR.shape
      have Hcells := box hcells
      clear hS hR hAl hAs hcells
      obtain ⟨wo, hwo⟩ : ∃ wo : World, wo = wr := ⟨_, rfl⟩
      subst hwo
      by_cases hlt : k < l.length
      · obtain ⟨lb, loff, rfl, hlb, hc0, hc1, hc2, hc3, z0, z1, z2, z3⟩ := Hel.out k hlt
        have Cw := box (Cm.out.trans HS.out.owns)
        have d0 := (Cw.out.cell (p := ⟨lb, loff + k * 4, none⟩) hlb).trans hc0
        have d1 := (Cw.out.cell (p := ⟨lb, loff + k * 4 + 1, none⟩) hlb).trans hc1
        have d2 := (Cw.out.cell (p := ⟨lb, loff + k * 4 + 2, none⟩) hlb).trans hc2
        have d3 := (Cw.out.cell (p := ⟨lb, loff + k * 4 + 3, none⟩) hlb).trans hc3
        have hlbo := Nat.lt_of_lt_of_le hlb Cw.out.size
        obtain ⟨⟨at_, ak, ap, ab⟩, ha⟩ : ∃ z, l[k] = z := ⟨_, rfl⟩
        rw [ha] at d0 d1 d2 d3
        clear ha hc0 hc1 hc2 hc3 z0 z1 z2 z3
        simp only at d0 d1 d2 d3
        have Ha := box ((Calm.refl wo).alloc (.cells #[.string at_, .string ak, .int .i64 ap, .int .i64 ab] 39))
        have Hnew := box (heap_new wo (.cells #[.string at_, .string ak, .int .i64 ap, .int .i64 ab] 39))
        have HSa := box (HS.out.calm Ha.out)
        have HRa := box (HR.out.keep (.calm Ha.out))
        by_cases hs1 : 100 < ak.size
        · go_wp2_with fail
          go_ret
          exact ⟨rfl, Cw.out.trans Ha.out⟩
        by_cases hs2 : 100 < at_.size
        · go_wp2_with fail
          go_ret
          exact ⟨rfl, Cw.out.trans Ha.out⟩
        cases htb : topicB at_
        · go_wp2_with fail
          refine (rTopic_any at_ _ (by unfold maxLen; omega)).mono ?_
          rw [htb]
          rintro e w5 ⟨rfl, rfl⟩
          go_wp2_with fail
          refine (Add_step2 x p k w0 _ s ⟨at_, ak, ap, ab⟩ HSa.out (by omega) (by simp only; omega) (by simp only; omega)).mono ?_
          rw [show addCode ⟨at_, ak, ap, ab⟩ = 11 from (by unfold addCode; rw [htb]; rfl), show addS s ⟨at_, ak, ap, ab⟩ = s from by unfold addS; rw [show addCode ⟨at_, ak, ap, ab⟩ = 11 from (by unfold addCode; rw [htb]; rfl)]; rfl]
          rintro e w6 ⟨rfl, hS6, hK6⟩
          have HS6 := box hS6
          have HR6 := box (HRa.out.keep (hK6 _ other_add))
          clear hS6 hK6
          go_wp2_with fail
          go_roundw
          case rel => exact ⟨k + 1, s, A, by omega, by go_num, HS6.out, HR6.out, HAl.out, HAs.out, by omega⟩
          case measure => simp [intOf]; omega
        cases hkb : nm.keyB ak
        · go_wp2_with fail
          refine (rTopic_any at_ _ (by unfold maxLen; omega)).mono ?_
          rw [htb]
          rintro e w5 ⟨rfl, rfl⟩
          go_wp2_with fail
          refine (rKey_any ak _ (by unfold maxLen; omega)).mono ?_
          rw [hkb]
          rintro e w5 ⟨rfl, rfl⟩
          go_wp2_with fail
          refine (Add_step2 x p k w0 _ s ⟨at_, ak, ap, ab⟩ HSa.out (by omega) (by simp only; omega) (by simp only; omega)).mono ?_
          rw [show addCode ⟨at_, ak, ap, ab⟩ = 11 from (by unfold addCode; rw [htb, hkb]; rfl), show addS s ⟨at_, ak, ap, ab⟩ = s from by unfold addS; rw [show addCode ⟨at_, ak, ap, ab⟩ = 11 from (by unfold addCode; rw [htb, hkb]; rfl)]; rfl]
          rintro e w6 ⟨rfl, hS6, hK6⟩
          have HS6 := box hS6
          have HR6 := box (HRa.out.keep (hK6 _ other_add))
          clear hS6 hK6
          go_wp2_with fail
          go_roundw
          case rel => exact ⟨k + 1, s, A, by omega, by go_num, HS6.out, HR6.out, HAl.out, HAs.out, by omega⟩
          case measure => simp [intOf]; omega
        by_cases hbad : badNum ⟨at_, ak, ap, ab⟩ = true
        · have hbd : ap < 0 ∨ (0 ≤ ap ∧ 1099511627776 < ap) ∨ (0 ≤ ap ∧ ap ≤ 1099511627776 ∧ ab < 0) ∨ (0 ≤ ap ∧ ap ≤ 1099511627776 ∧ 0 ≤ ab ∧ 1099511627776 < ab) := by
            unfold badNum at hbad
            simp only [Bool.or_eq_true, decide_eq_true_eq] at hbad
            omega
          have Hbad := box hbad
          clear hbad
          rcases hbd with b1 | ⟨b1, b2⟩ | ⟨b1, b2, b3⟩ | ⟨b1, b2, b3, b4⟩
          all_goals
            go_wp2_with fail
            refine (rTopic_any at_ _ (by unfold maxLen; omega)).mono ?_
            rw [htb]
            rintro e w5 ⟨rfl, rfl⟩
            go_wp2_with fail
            refine (rKey_any ak _ (by unfold maxLen; omega)).mono ?_
            rw [hkb]
            rintro e w5 ⟨rfl, rfl⟩
            go_wp2_with fail
            refine (Add_step2 x p k w0 _ s ⟨at_, ak, ap, ab⟩ HSa.out (by omega) (by simp only; omega) (by simp only; omega)).mono ?_
            rw [show addCode ⟨at_, ak, ap, ab⟩ = 1 from (by unfold addCode; rw [htb, hkb, Hbad.out]; rfl), show addS s ⟨at_, ak, ap, ab⟩ = s from by unfold addS; rw [show addCode ⟨at_, ak, ap, ab⟩ = 1 from (by unfold addCode; rw [htb, hkb, Hbad.out]; rfl)]; rfl]
            rintro e w6 ⟨rfl, hS6, hK6⟩
            have HS6 := box hS6
            have HR6 := box (HRa.out.keep (hK6 _ other_add))
            clear hS6 hK6
            go_wp2_with fail
            go_roundw
            case rel => exact ⟨k + 1, s, A, by omega, by go_num, HS6.out, HR6.out, HAl.out, HAs.out, by omega⟩
            case measure => simp [intOf]; omega
        · have hgd : 0 ≤ ap ∧ ap ≤ 1099511627776 ∧ 0 ≤ ab ∧ ab ≤ 1099511627776 := by
            unfold badNum at hbad
            simp only [Bool.or_eq_true, decide_eq_true_eq] at hbad
            omega
          obtain ⟨b1, b2, b3, b4⟩ := hgd
          have hcode : addCode ⟨at_, ak, ap, ab⟩ = 0 := by unfold addCode; rw [htb, hkb]; simp [hbad]
          have Hcode := box hcode
          have hadd := HAl.out.add ⟨at_, ak, ap, ab⟩ b1 (s.2.getD (numK at_ ak % 8) 0) ab.toNat
          have Hadd := box (show kx.Alike (addS s ⟨at_, ak, ap, ab⟩).1 (A ++ [⟨at_, ak, ap, ab⟩]) by unfold addS; rw [if_pos hcode]; exact hadd)
          have HAs' := box (show ∀ z ∈ A ++ [(⟨at_, ak, ap, ab⟩ : AddS)], z.topic.size ≤ 100 ∧ z.key.size ≤ 100 from fun z hz => by
            rcases List.mem_append.1 hz with hz | hz
            · exact HAs.out z hz
            · rw [List.mem_singleton] at hz; subst hz; exact ⟨by simp only; omega, by simp only; omega⟩)
          clear hbad hcode hadd
          go_wp2_with fail
          refine (rTopic_any at_ _ (by unfold maxLen; omega)).mono ?_
          rw [htb]
          rintro e w5 ⟨rfl, rfl⟩
          go_wp2_with fail
          refine (rKey_any ak _ (by unfold maxLen; omega)).mono ?_
          rw [hkb]
          rintro e w5 ⟨rfl, rfl⟩
          go_wp2_with fail
          refine (Add_step2 x p k w0 _ s ⟨at_, ak, ap, ab⟩ HSa.out (by omega) (by simp only; omega) (by simp only; omega)).mono ?_
          rw [Hcode.out]
          rintro e w6 ⟨rfl, hS6, hK6⟩
          have hnew := hK6 _ other_add _ _ Hnew.out
          have e0 := cell_of hnew 0
          have e1 := cell_of hnew 1
          have e2 := cell_of hnew 2
          have e3 := cell_of hnew 3
          have elt := heap_lt hnew
          have HR6 := HRa.out.keep (hK6 _ other_add)
          obtain ⟨v', W7, happ, hrow7, hk7⟩ := append_add w0.heap.size w6 _ A ⟨at_, ak, ap, ab⟩ HR6 hS6.owns.size (by omega) 37
          have HS7 := box (hS6.keepG hk7 (fun b hb => by
            refine ⟨(World.ownsRow.lt HR6 b hb).1, 39, ?_⟩
            obtain ⟨cur, hcur⟩ := own_row HR6 hb
            exact ⟨cur, other_add, hcur⟩))
          have Happ := box happ
          have HR7 := box hrow7
          clear hS6 hK6 hnew HR6 happ hrow7 hk7
          go_wp2_with (first | (at_builtin; refine Lib.wpList_append_run _ rfl _ _ _ _ rfl _ _ rfl rfl _ _ Happ.out ?_) | fail)
          go_roundw
          case rel => exact ⟨k + 1, _, _, by omega, by go_num, HS7.out, HR7.out, Hadd.out, HAs'.out, by simp; omega⟩
          case measure => simp [intOf]; omega
      · obtain rfl : k = l.length := by omega
        have jq := heap_calm HS.out.owns Jq.out
        have g0 := cell_of jq 0
        have g1 := cell_of jq 1
        have gl := heap_lt jq
        have hnum := box (fun W => rnumber_any qt qk W (by omega) (by omega))
        clear jq q0 q1 ql
        obtain ⟨qv, hqv⟩ : ∃ z, numK qt qk = z := ⟨_, rfl⟩
        rw [hqv] at hnum
        have qw : IntKind.i64.wrap ((A.length : Int) - 1) = (A.length : Int) - 1 := IntWalk.i64_in _ (by omega)
        go_wp2_with fail
        refine (hnum.out _).mono ?_
        rintro e w4 ⟨rfl, rfl⟩
        obtain ⟨fin, hfin⟩ : ∃ z, backS s.1 (qv % 8) (fdStp qv least most) (fdGo qv least most) s.1.length [] = z := ⟨_, rfl⟩
        have Hfin := box (show backS s.1 (numK qt qk % 8) (fdStp (numK qt qk) least most) (fdGo (numK qt qk) least most) s.1.length [] = fin by rw [hqv]; exact hfin)
        rw [HAl.out.1] at hfin
        have Hfin2 := box hfin
        clear hfin hqv
        go_wp2_with fail
        go_loopw [16, 17] (fun u iv wr => ∃ (j : Nat) (t : Int) (out : List Int), j ≤ A.length ∧ t = (j : Int) - 1 ∧ iv = .int .i64 t ∧ wr.ownsRow w0.heap.size 3 1 u out.length (intRow out) ∧ out.length + j ≤ 1000 ∧ backS s.1 (qv % 8) (fdStp qv least most) (fdGo qv least most) j out = fin ∧ KxS x p l.length w0 wr s ∧ addRow w0.heap.size wr (.slice va A.length vc) A) (fun _ iv _ => (intOf iv + 1).toNat)
        case atStart => exact ⟨A.length, _, [], Nat.le_refl _, rfl, rfl, World.ownsRow_nil _ _ _ _, by simp; omega, Hfin2.out, HS.out, HR.out⟩
        case round =>
          clear HS HR Hcells
          obtain ⟨j, t, out, hj, ht, rfl, hu, hlen, hback, hS, hR⟩ := hrel
          have jq := heap_calm hS.owns Jq.out
          have g0 := cell_of jq 0
          have g1 := cell_of jq 1
          have gl := heap_lt jq
          obtain ⟨va', vc', he, hcells⟩ := hR.shape
          cases he
          obtain ⟨ua0, uc0, rfl⟩ := row_shape hu
          have Hcells := box hcells
          have HS := box hS
          have HR := box hR
          have Hrow := box hu
          have Hback := box hback
          clear jq hS hR hu hcells hback
          obtain ⟨wo, hwo⟩ : ∃ wo : World, wo = wr := ⟨_, rfl⟩
          subst hwo
          cases j with
          | zero =>
            have ht1 : t < 0 := by omega
            clear ht
            have Hend := box (show out = fin from Hback.out)
            go_wp2_with fail
            refine (HS.out.find' qt qk least most (by omega) (by omega) fin Hfin.out).mono ?_
            rintro e w7 ⟨v7, rfl, hI7, hF7, hc7⟩
            obtain ⟨a7, cap7, rfl, _⟩ := id hI7
            have hU := (own_ints Hrow.out (by omega)).1
            have HI7 := box hI7
            have HU7 := box (hU.calm hc7)
            have HS7 := box (HS.out.calm hc7)
            clear hI7 hF7 hU hc7
            go_wp2_with fail
            refine (Ints_any _ _ fin out _ HI7.out HU7.out).mono ?_
            rw [decide_eq_true (show fin = out from Hend.out.symm)]
            rintro e w8 ⟨rfl, hc8⟩
            have HS8 := box (HS7.out.calm hc8)
            clear hc8
            go_wp2_with fail
            refine (HS8.out.len).mono ?_
            rw [HAl.out.1]
            rintro e w9 ⟨rfl, rfl⟩
            go_wp2_with fail
            go_ret
            exact ⟨ret_bool (by simp), Cm.out.trans HS8.out.owns⟩
          | succ i =>
            obtain rfl : t = (i : Int) := by omega
            clear ht
            by_cases hm : (out.length : Int) < most
            · have hiE : i < s.1.length := by rw [HAl.out.1]; omega
              have hbs := back_step (v := qv) (b := qv % 8) (least := least) (List.getElem?_eq_getElem hiE) hm
              have hal := HAl.out.2 i hiE (by omega)
              have has := HAs.out A[i] (List.getElem_mem _)
              obtain ⟨bb_, rfl, hbl, c0, c1, c2, c3⟩ := Hcells.out i (by omega)
              obtain ⟨e, hee⟩ : ∃ e, s.1[i] = e := ⟨_, rfl⟩
              rw [hee] at hbs hal
              obtain ⟨⟨bt, bk, bp, bn⟩, hz⟩ : ∃ z, A[i]'(by omega) = z := ⟨_, rfl⟩
              rw [hz] at hal has c0 c1 c2 c3
              simp only at hal has c0 c1 c2 c3
              obtain ⟨kv, hkv⟩ : ∃ z, numK bt bk = z := ⟨_, rfl⟩
              have hnk := box (fun W => rnumber_any bt bk W (by omega) (by omega))
              rw [hkv] at hal hnk
              rw [hal.1, hal.2] at hbs
              have Hbs := box hbs
              have hm1 : Int.tmod (kv : Int) 8 = ((kv % 8 : Nat) : Int) := by rw [Int.tmod_eq_emod_of_nonneg (by omega)]; omega
              have hm2 : Int.tmod (qv : Int) 8 = ((qv % 8 : Nat) : Int) := by rw [Int.tmod_eq_emod_of_nonneg (by omega)]; omega
              have qw2 : IntKind.i64.wrap ((i : Int) - 1) = (i : Int) - 1 := IntWalk.i64_in _ (by omega)
              have Ha := box ((Calm.refl wo).alloc (.cells #[.string bt, .string bk, .int .i64 bp, .int .i64 bn] 39))
              have Hnew := box (heap_new wo (.cells #[.string bt, .string bk, .int .i64 bp, .int .i64 bn] 39))
              clear hbs hal has hee hz hkv
              by_cases m1 : kv % 8 = qv % 8
              · have mb : (((kv : Int) % 8) == ((qv : Int) % 8)) = true := by rw [beq_iff_eq]; omega
                by_cases m2 : bp < least
                · have Hend := box (show out = fin by rw [← Hback.out]; exact (Hbs.out.2.1 m1 m2).symm)
                  have HS := box (HS.out.calm Ha.out)
                  have Hrow := box (own_calm Hrow.out Ha.out)
                  go_wp2_with fail
                  refine (hnk.out _).mono ?_
                  rintro e w4 ⟨rfl, rfl⟩
                  go_wp2_with fail
                  refine (HS.out.find' qt qk least most (by omega) (by omega) fin Hfin.out).mono ?_
                  rintro e w7 ⟨v7, rfl, hI7, hF7, hc7⟩
                  obtain ⟨a7, cap7, rfl, _⟩ := id hI7
                  have hU := (own_ints Hrow.out (by omega)).1
                  have HI7 := box hI7
                  have HU7 := box (hU.calm hc7)
                  have HS7 := box (HS.out.calm hc7)
                  clear hI7 hF7 hU hc7
                  go_wp2_with fail
                  refine (Ints_any _ _ fin out _ HI7.out HU7.out).mono ?_
                  rw [decide_eq_true (show fin = out from Hend.out.symm)]
                  rintro e w8 ⟨rfl, hc8⟩
                  have HS8 := box (HS7.out.calm hc8)
                  clear hc8
                  go_wp2_with fail
                  refine (HS8.out.len).mono ?_
                  rw [HAl.out.1]
                  rintro e w9 ⟨rfl, rfl⟩
                  go_wp2_with fail
                  go_ret
                  exact ⟨ret_bool (by simp), Cm.out.trans HS8.out.owns⟩
                · by_cases m3 : kv = qv
                  · have Hnext := box (show backS s.1 (qv % 8) (fdStp qv least most) (fdGo qv least most) i (out ++ [bp]) = fin by rw [← Hback.out]; exact (Hbs.out.2.2.2 m1 m2 m3).symm)
                    subst m3
                    obtain ⟨u', W7, happ, hrow7, hk7, _⟩ := append_int2 _ w0.heap.size _ out bp (own_calm Hrow.out Ha.out) (Nat.le_trans HS.out.owns.size Ha.out.size) (by omega) 32
                    have HS7 := box ((HS.out.calm Ha.out).keepG hk7 (fun b hb => by
                      have hr := own_calm Hrow.out Ha.out
                      obtain ⟨cur, hcur⟩ := own_row hr hb
                      exact ⟨(World.ownsRow.lt hr b hb).1, 3, cur, other_int, hcur⟩))
                    have HR7 := box ((HR.out.keep (.calm Ha.out)).keep (KeepsT.of_keeps hk7 (fun b hb => own_row (own_calm Hrow.out Ha.out) hb) (by decide)))
                    simp only [World.size_alloc] at happ
                    have Happ := box happ
                    have Hrow7 := box hrow7
                    clear happ hrow7 hk7
                    go_wp2_with fail
                    refine (hnk.out _).mono ?_
                    rintro e w4 ⟨rfl, rfl⟩
                    go_wp2_with (first | (at_builtin; refine Lib.wpList_append_run _ rfl _ _ _ _ rfl _ _ rfl rfl _ _ Happ.out ?_) | fail)
                    go_roundw
                    case rel => exact ⟨i, _, out ++ [bp], by omega, rfl, rfl, Hrow7.out, by simp; omega, Hnext.out, HS7.out, HR7.out⟩
                    case measure => first | (simp [intOf]; omega) | simp [intOf]
                  · have Hnext := box (show backS s.1 (qv % 8) (fdStp qv least most) (fdGo qv least most) i out = fin by rw [← Hback.out]; exact (Hbs.out.2.2.1 m1 m2 m3).symm)
                    have m3' : ((kv : Int) == (qv : Int)) = false := beq_eq_false_iff_ne.2 (by omega)
                    go_wp2_with fail
                    refine (hnk.out _).mono ?_
                    rintro e w4 ⟨rfl, rfl⟩
                    go_wp2_with fail
                    go_roundw
                    case rel => exact ⟨i, _, out, by omega, rfl, rfl, own_calm Hrow.out Ha.out, by omega, Hnext.out, HS.out.calm Ha.out, HR.out.keep (.calm Ha.out)⟩
                    case measure => first | (simp [intOf]; omega) | simp [intOf]
              · have mb : (((kv : Int) % 8) == ((qv : Int) % 8)) = false := beq_eq_false_iff_ne.2 (by omega)
                have Hnext := box (show backS s.1 (qv % 8) (fdStp qv least most) (fdGo qv least most) i out = fin by rw [← Hback.out]; exact (Hbs.out.1 m1).symm)
                go_wp2_with fail
                refine (hnk.out _).mono ?_
                rintro e w4 ⟨rfl, rfl⟩
                go_wp2_with fail
                go_roundw
                case rel => exact ⟨i, _, out, by omega, rfl, rfl, own_calm Hrow.out Ha.out, by omega, Hnext.out, HS.out.calm Ha.out, HR.out.keep (.calm Ha.out)⟩
                case measure => first | (simp [intOf]; omega) | simp [intOf]
            · have Hend := box (show out = fin by rw [← Hback.out]; exact (back_full _ _ _ _ _ _ _ hm).symm)
              go_wp2_with fail
              refine (HS.out.find' qt qk least most (by omega) (by omega) fin Hfin.out).mono ?_
              rintro e w7 ⟨v7, rfl, hI7, hF7, hc7⟩
              obtain ⟨a7, cap7, rfl, _⟩ := id hI7
              have hU := (own_ints Hrow.out (by omega)).1
              have HI7 := box hI7
              have HU7 := box (hU.calm hc7)
              have HS7 := box (HS.out.calm hc7)
              clear hI7 hF7 hU hc7
              go_wp2_with fail
              refine (Ints_any _ _ fin out _ HI7.out HU7.out).mono ?_
              rw [decide_eq_true (show fin = out from Hend.out.symm)]
              rintro e w8 ⟨rfl, hc8⟩
              have HS8 := box (HS7.out.calm hc8)
              clear hc8
              go_wp2_with fail
              refine (HS8.out.len).mono ?_
              rw [HAl.out.1]
              rintro e w9 ⟨rfl, rfl⟩
              go_wp2_with fail
              go_ret
              exact ⟨ret_bool (by simp), Cm.out.trans HS8.out.owns⟩

theorem own : ownKnob Try.prog.godebug = none := by kernel_rfl
theorem laidOut : laidOutB Try.prog = true := by kernel_rfl
set_option maxRecDepth 100000 in
set_option linter.unusedVariables false in
theorem lifted (os : Os) (started : os.Started) (H : Type) (enc : TypeId × Value → H) :
    ReturnsInHanded {} Try.checked os 4 .any (Rows.keyxFindsSpec.pre6 enc Try.prog Try.f4 Rows.keyxFindsRow.domain false) (Rows.keyxFindsSpec.post enc Try.prog Try.f4 false true false false) := by
  refine returnsInHanded_of_change_sized (C := Try.checked) own started (by kernel_rfl) Try.func4
    (ChangeSpec.witness6 (enc := enc) (C := Try.checked) false ⟨#[], #[.slice none 0 0, .agg #[.string ⟨#[]⟩, .string ⟨#[]⟩, .int .i64 0, .int .i64 0], .agg #[.int .i64 0, .int .i64 0]], []⟩ 8 (by kernel_rfl) (by kernel_rfl) (by kernel_rfl) (by kernel_rfl)) ?_
  intro W base args ds gs before hval0 hW hcnd hsz0 _
  have hsz : (DataW.weightsEach Try.prog (Try.f4.params.toList ++ []) (ds ++ gs)).all (· ≤ reachBytes) = true := hsz0
  clear hsz0
  have hval : ∀ (j : Nat) t v, Try.f4.params[j]? = some t → args[j]? = some v → Value.okWide Try.prog W .any base t v := hval0
  have hW' := hW
  obtain ⟨p, q, hA0, hV, rfl, hfz, hnd⟩ := hW
  have hA : DataW.TrodAll enc Try.prog W 0 (fun _ => true) true Try.f4.params.toList args.toList ds p := hA0
  rw [Try.params4] at hA hval hsz
  obtain ⟨v0, vs0, d0, ds0, p0, q0, hargs, rfl, rfl, h0, r0'⟩ := trodAll_cons hA
  obtain ⟨v1, vs1, d1, ds1, p1, q1, rfl, rfl, rfl, h1, r1'⟩ := trodAll_cons r0'
  obtain ⟨v2, vs2, d2, ds2, p2, q2, rfl, rfl, rfl, h2, r2'⟩ := trodAll_cons r1'
  obtain ⟨rfl, rfl, rfl⟩ := trodAll_nil r2'
  obtain rfl : args = #[v0, v1, v2] := by cases args; simp_all
  obtain ⟨rfl, rfl⟩ := trodVars_none hV
  clear hA0 hval0
  have wt0 := fun n hn => (by simpa using List.all_eq_true.1 hsz n (DataW.weights_mem_each (j := 0) rfl rfl n hn) : n ≤ reachBytes)
  have wt1 := fun n hn => (by simpa using List.all_eq_true.1 hsz n (DataW.weights_mem_each (j := 1) rfl rfl n hn) : n ≤ reachBytes)
  have wt2 := fun n hn => (by simpa using List.all_eq_true.1 hsz n (DataW.weights_mem_each (j := 2) rfl rfl n hn) : n ≤ reachBytes)
  have hlt : ∀ x ∈ p0 ++ (p1 ++ (p2 ++ [])), x.block < W.heap.size := fun x hx => by have := hW'.lt x (by simpa using hx); simpa using this
  obtain ⟨l0, r0⟩ := slice_arg Try.underlying37 (hval 0 37 v0 rfl rfl) ((opens_slice (c := 4) Try.underlying37 (by kernel_rfl) (by decide) (opens_add)).arg h0)
  obtain ⟨y1, e1, r1⟩ := add_arg (struct_shape Try.underlying39 (hval 1 39 v1 rfl rfl)) ((opens_add).arg h1)
  subst e1
  obtain ⟨y2, e2, r2⟩ := pair_arg (array_shape Try.underlying40 (hval 2 40 v2 rfl rfl)) ((opens_pair Try.underlying40 Try.underlying3 (by kernel_rfl) (by kernel_rfl)).arg h2)
  subst e2
  refine (walk W v0 l0 r0 y1 r1 y2 r2).mono fun e W' ⟨he, hg⟩ => ?_
  subst he
  refine ⟨_, rfl, _, _, _, [] ++ [], p0 ++ (p1 ++ (p2 ++ [])), [], hW', ?_, ?_, ?_, hg.frame _, fun h => by cases h⟩
  · exact trodAll_mk1 (shut_bool Try.underlying4 true)
  · exact trodAll_cons_mk (Below.trod laidOut (by kernel_rfl) (of_decide_eq_true (by kernel_rfl)) h0 hg (fun x hx => hlt x (by simp [hx]))) (trodAll_cons_mk (Below.trod laidOut (by kernel_rfl) (of_decide_eq_true (by kernel_rfl)) h1 hg (fun x hx => hlt x (by simp [hx]))) (trodAll_cons_mk (Below.trod laidOut (by kernel_rfl) (of_decide_eq_true (by kernel_rfl)) h2 hg (fun x hx => hlt x (by simp [hx]))) (trodAll_mk0)))
  · exact rfl

theorem over : Rows.keyxFindsRow.holds Try.pinned (OpenSpec.ofChange Rows.keyxFindsSpec) :=
  OpenClaim.holds_of_wide 4 Try.f4 rfl rfl rfl rfl rfl rfl rfl ⟨rfl, rfl, rfl, rfl, rfl⟩ rfl rfl rfl rfl rfl (by kernel_rfl) Try.func4 (by kernel_rfl)
    (of_decide_eq_true (by kernel_rfl)) (by unfold Func.isWrapper; first | (rw [if_pos (by decide +kernel)]; kernel_rfl) | (rw [if_neg (by decide +kernel)]; exact ⟨rfl, rfl⟩))
    (fun os started H enc _ => lifted os started H enc)

theorem proved : Rows.KeyxFindsSaid := over
#print axioms proved
end Go.Proofs.Ytjfiglkclpddaaa.kfinds
