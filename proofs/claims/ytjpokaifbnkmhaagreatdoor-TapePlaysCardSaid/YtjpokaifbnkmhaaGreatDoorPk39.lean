/- Lemmas for this claim. -/
import Derived.Deep.CutBlock
import Derived.Test.YtjpokaifbnkmhaaGreatDoorPk38
set_option maxRecDepth 100000
namespace Go.Proofs.YtjpokaifbnkmhaaGreatDoor.tp
open Go.ChangeShapes Go.WideShapes Go.ChangeAt Go.RowKit Go.ChangeMaps Go.MapKept
open rc oc cr dk sg
set_option maxHeartbeats 16000000 in
theorem plays.walk (W : World) (ht : Tab W) (cap : Int) (hcap : (Lit.int .i64 cap).wf = true) (v : Value) (l : List Op8) (rv : RowsAt Op8R 12 W v l) :
  Calls Tryz.prog 7 #[.int .i64 cap, v] W fun e W' => e = .returned (.bool true) ∧ Calm W W' := by
 have Rv := box rv
 obtain ⟨la, lcap, rfl, hll, hle⟩ := RowsAt.ops8 rv
 have Hle := box hle
 have haw := box (awake_any W ht)
 have HT := box ht
 unfold maxLen at hll
 clear ht rv hle hcap
 go_enter Tryz.func7, Tryz.ntmps7
 go_wp2_with fail
 refine haw.out.mono ?_
 rintro e w1 ⟨rfl, hc1⟩
 have C1 := box hc1
 clear hc1 haw
 have hgr := box (great8_any _ l w1 (Rv.out.calm Op8R.lasts C1.out))
 go_wp2_with fail
 refine hgr.out.mono ?_
 rintro e w2 ⟨g0, rfl, hc2, hsm⟩
 have C2 := box (C1.out.trans hc2)
 cases g0
 case true =>
  clear hc2 hgr hsm
  go_wp2_with fail
  go_ret
  exact ⟨rfl, C2.out⟩
 obtain ⟨hl80, hsm'⟩ := hsm rfl
 have Hsm := box hsm'
 clear hc2 hgr hsm hsm'
 obtain ⟨c, hc24, hnew⟩ := cap_eq cap
 have Hnew := box hnew
 clear hnew
 go_wp2_with fail
 refine (New_ok w2 cap).mono ?_
 rintro e w3 ⟨p, F3, rfl, hd3, hc3, hF3⟩
 rw [Hnew.out] at hd3
 have hopen := box (open_new (W := W) c hc24 hd3 HT.out (C2.out.trans hc3) (fun b hb => Nat.le_trans C2.out.size (hF3 b hb)))
 clear hd3 hc3 hF3 Hnew
 go_wp2_with fail
 refine hopen.out.mono ?_
 rintro e w4 ⟨t, S, G, rfl, hL, _, hps, hst⟩
 have P4 := box (Py.new hL hps hst)
 clear hopen hL hps hst
 go_wp2_with fail
 obtain ⟨g, hg⟩ : ∃ g, w4.heap.size = g := ⟨_, rfl⟩
 rw [hg] at P4 ⊢
 clear hg
 go_loopw [6, 43] (fun tv iv wr => ∃ (k t : Nat) (S : TS) (G : Nat → Prop) (B : ByteArray) (A : List Rq) (il lv : Value), k ≤ l.length ∧ tv = ptrTo t ∧ iv = .int .i64 (k : Int) ∧ Box (Py W t p g c k S G B A il lv wr)) (fun _ iv _ => l.length - (intOf iv).toNat)
 case atStart => exact ⟨0, t, S, G, _, _, _, _, Nat.zero_le _, rfl, rfl, P4⟩
 case round =>
  clear P4
  obtain ⟨k, t, S, G, B, A, il, lv, hk, rfl, rfl, HP⟩ := hrel
  by_cases hkl : k < l.length
  ·obtain ⟨eb, eoff, kv, rfl, heb, hec, hks, hmz⟩ := Hle.out k hkl
   have hsm := Hsm.out l[k] (List.getElem_mem hkl)
   obtain ⟨⟨ok, on, m⟩, hm⟩ : ∃ o, l[k] = o := ⟨_, rfl⟩
   rw [hm] at hec hks hmz hsm
   simp only at hec hks hmz hsm
   have hown := HP.out.owns
   have hlt := Nat.lt_of_lt_of_le heb hown.size
   have c0 := (hown.cell (p := ⟨eb, eoff + k * 12, none⟩) heb).trans (hec 0 (by decide))
   have c1 := (hown.cell (p := ⟨eb, eoff + k * 12 + 1, none⟩) heb).trans (hec 1 (by decide))
   have c2 := (hown.cell (p := ⟨eb, eoff + k * 12 + 2, none⟩) heb).trans (hec 2 (by decide))
   have c3 := (hown.cell (p := ⟨eb, eoff + k * 12 + 3, none⟩) heb).trans (hec 3 (by decide))
   have c4 := (hown.cell (p := ⟨eb, eoff + k * 12 + 4, none⟩) heb).trans (hec 4 (by decide))
   have c5 := (hown.cell (p := ⟨eb, eoff + k * 12 + 5, none⟩) heb).trans (hec 5 (by decide))
   have c6 := (hown.cell (p := ⟨eb, eoff + k * 12 + 6, none⟩) heb).trans (hec 6 (by decide))
   have c7 := (hown.cell (p := ⟨eb, eoff + k * 12 + 7, none⟩) heb).trans (hec 7 (by decide))
   have c8 := (hown.cell (p := ⟨eb, eoff + k * 12 + 8, none⟩) heb).trans (hec 8 (by decide))
   have c9 := (hown.cell (p := ⟨eb, eoff + k * 12 + 9, none⟩) heb).trans (hec 9 (by decide))
   have c10 := (hown.cell (p := ⟨eb, eoff + k * 12 + 10, none⟩) heb).trans (hec 10 (by decide))
   have c11 := (hown.cell (p := ⟨eb, eoff + k * 12 + 11, none⟩) heb).trans (hec 11 (by decide))
   simp only [List.getElem?_toArray, List.getElem?_cons_zero, List.getElem?_cons_succ] at c0 c1 c2 c3 c4 c5 c6 c7 c8 c9 c10 c11
   have Hkw := box hks
   have hfair := fair_of (m := m) (hks.calm hown) hmz hsm
   obtain ⟨ka, kcap, rfl, _⟩ := (hks.calm hown).uni
   obtain ⟨wa, hwa⟩ : ∃ wa, wr.alloc (.cells (op8A ⟨ok, on, m⟩ (.slice ka m.keys.length kcap)) 91) = wa := ⟨_, rfl⟩
   have hja : OpAt wa wr.heap.size ok on m (.slice ka m.keys.length kcap) := by rw [← hwa]; exact heap_new wr _
   have Ca := box (show Calm wr wa by rw [← hwa]; exact (Calm.refl wr).alloc _)
   have Hn := box (HP.out.not_new (b := wr.heap.size) (Nat.le_refl _))
   obtain ⟨b0, hb0⟩ : ∃ b0, wr.heap.size = b0 := ⟨_, rfl⟩
   rw [hb0] at hja Hn
   have Ja := box hja
   have Pa := box (HP.out.calm Ca.out)
   have Fa := box (hfair.calm Ca.out)
   have Zm := box hmz
   have hk80 : k ≤ 80 := by omega
   obtain ⟨d0, d1, d2, d3, d4, d5, d6, d7, d8, d9, d10, d11, dlt⟩ := Ja.out.cells
   clear hks hmz hsm hec hfair hja hown HP hm
   go_upto_block 2 with fail
   (try rw [hwa])
   (try rw [hb0])
   clear hwa hb0 c0 c1 c2 c3 c4 c5 c6 c7 c8 c9 c10 c11 hlt
   go_cut [6, 43] from 43 to 261 (fun tv iv wx => iv = .int .i64 (k : Int) ∧ ∃ (t' : Nat) (S' : TS) (G' : Nat → Prop) (B' : ByteArray) (A' : List Rq) (il' lv' : Value), tv = ptrTo t' ∧ Box (OpAt wx b0 ok on m (.slice ka m.keys.length kcap)) ∧ Box (Py W t' p g c (k + 1) S' G' B' A' il' lv' wx))
   case first =>
    obtain ⟨ia, inn, ic, rfl⟩ := row_slice Pa.out.rt.ids
    obtain ⟨lla, lnn, lc, rfl⟩ := row_slice Pa.out.rt.row
    clear Rv Hsm C1 C2 Hle heb
    by_cases hk0 : ok = 0
    ·as_aux_lemma =>
     subst hk0
     have hco := box (rCost_any g B _ _ _ m (.slice ka m.keys.length kcap) wa Pa.out.rt.obj Fa.out.keys Zm.out.2.2.2.2.1 ⟨Zm.out.1, Zm.out.2.1, Zm.out.2.2.1⟩ (by have := Pa.out.size; have := Pa.out.fin; omega) Pa.out.end_ok)
     go_wp2_with fail
     refine hco.out.mono ?_
     rintro e w5 ⟨rfl, hc5⟩
     have J5 := box (Ja.out.calm hc5)
     have P5 := box (Pa.out.calm hc5)
     have F5 := box (Fa.out.calm hc5)
     have hc2 := box (P5.out.cost_ m _ F5.out)
     clear hc5 hco d0 d1 d2 d3 d4 d5 d6 d7 d8 d9 d10 d11 dlt Ja Pa Fa Ca
     obtain ⟨d0, d1, d2, d3, d4, d5, d6, d7, d8, d9, d10, d11, dlt⟩ := J5.out.cells
     obtain ⟨cst, hcst⟩ : ∃ cst, costP B.size m = cst := ⟨_, rfl⟩
     rw [hcst] at hc2 ⊢
     go_wp2_with fail
     refine hc2.out.mono ?_
     rintro e w6 ⟨rfl, hc6⟩
     have J6 := box (J5.out.calm hc6)
     have P6 := box (P5.out.calm hc6)
     have F6 := box (F5.out.calm hc6)
     clear hc6 hc2 d0 d1 d2 d3 d4 d5 d6 d7 d8 d9 d10 d11 dlt J5 P5 F5
     have hro := box P6.out.room
     go_wp2_with fail
     refine hro.out.mono ?_
     rintro e w7 ⟨rfl, hc7⟩
     have J7 := box (J6.out.calm hc7)
     have P7 := box (P6.out.calm hc7)
     have F7 := box (F6.out.calm hc7)
     clear hc7 hro J6 P6 F6
     obtain ⟨d0, d1, d2, d3, d4, d5, d6, d7, d8, d9, d10, d11, dlt⟩ := J7.out.cells
     have hap := box (P7.out.append (by omega) m _ F7.out)
     obtain ⟨ro, hroE⟩ : ∃ ro, (c : Int) - (S.D.size : Int) = ro := ⟨_, rfl⟩
     have Hro := box hroE
     rw [hroE]
     clear hroE
     go_wp2_with fail
     refine hap.out.mono ?_
     rintro e w8 ⟨hK8, ⟨h1, rfl, G8, hP8⟩ | ⟨h1, h2, rfl, G8, hP8⟩ | ⟨h1, h2, rfl, hok, hR8, hnx⟩⟩
     ·have P8 := box hP8
      have J8 := box (J7.out.keeps hK8 (fun e => Hn.out (.inl e)))
      rw [hcst] at h1
      have t1 : ((cst : Int) == 0) = true := by rw [h1]; rfl
      have t2 : (cst == 0) = true := by rw [h1]; rfl
      clear hK8 hP8 hap h1 hcst d0 d1 d2 d3 d4 d5 d6 d7 d8 d9 d10 d11 dlt
      go_wp2_with fail
      go_meet
      exact ⟨rfl, _, _, _, _, _, _, _, rfl, J8, P8⟩
     ·have P8 := box hP8
      have J8 := box (J7.out.keeps hK8 (fun e => Hn.out (.inl e)))
      rw [hcst] at h1 h2
      rw [Hro.out] at h2
      have t1 : ((cst : Int) == 0) = false := beq_eq_false_iff_ne.2 (by omega)
      have t2 : (cst == 0) = false := beq_eq_false_iff_ne.2 (by omega)
      have t3 : decide (ro < (cst : Int)) = true := decide_eq_true h2
      have hro := box (show Calls Tryz.prog 45 #[ptrTo p] w8 fun e w' => e = .returned (.int .i64 ro) ∧ Calm w8 w' from by
       have h := hP8.room
       rw [Hro.out] at h
       exact h)
      clear hK8 hP8 hap h1 h2 hcst d0 d1 d2 d3 d4 d5 d6 d7 d8 d9 d10 d11 dlt
      go_wp2_with fail
      refine hro.out.mono ?_
      rintro e w9 ⟨rfl, hc9⟩
      have P9 := box (P8.out.calm hc9)
      have J9 := box (J8.out.calm hc9)
      clear hc9 hro
      go_wp2_with fail
      go_meet
      exact ⟨rfl, _, _, _, _, _, _, _, rfl, J9, P9⟩
     ·have J8 := box (J7.out.keeps hK8 (fun e => Hn.out (.inl e)))
      have hcal8 : Calm W w8 := Below.trans P7.out.owns (hK8.below P7.out.owns.size (fun b hb => by
       obtain ⟨n0, hT0, _⟩ := P7.out.tp
       exact hT0.from_ b hb))
      have hra := box (rAppend_any m (.slice ka m.keys.length kcap) w8 hR8 hcal8 Hkw.out (by have := F7.out.len; exact this) Zm.out.2.2.2.2.1 ⟨Zm.out.1, Zm.out.2.1, Zm.out.2.2.1⟩ hok (by have := P7.out.size; have := P7.out.fin; omega) P7.out.end_ok (by have := P7.out.few; omega))
      have Hnx := box hnx
      rw [hcst] at h1 h2
      rw [Hro.out] at h2
      have t1 : ((cst : Int) == 0) = false := beq_eq_false_iff_ne.2 (by omega)
      have t2 : (cst == 0) = false := beq_eq_false_iff_ne.2 (by omega)
      have t3 : decide (ro < (cst : Int)) = false := decide_eq_false (by omega)
      obtain ⟨idn, hidn⟩ : ∃ idn, idP B.size m = idn := ⟨_, rfl⟩
      rw [hidn] at Hnx ⊢
      clear hcal8 hK8 hR8 hnx hap h1 h2 hcst hidn hok d0 d1 d2 d3 d4 d5 d6 d7 d8 d9 d10 d11 dlt
      obtain ⟨d0, d1, d2, d3, d4, d5, d6, d7, d8, d9, d10, d11, dlt⟩ := J8.out.cells
      go_wp2_with fail
      refine hra.out.mono ?_
      intro e w9 hR9
      obtain ⟨rfl, S9, G9, B9, A9, il9, lv9, hst9, hP9⟩ := Hnx.out e w9 hR9
      have P9 := box hP9
      have J9 := box (J8.out.keeps hR9.2.choose_spec.choose_spec.choose_spec.2.2.1 (fun e => Hn.out (.inr e)))
      clear hP9 hR9 hst9 hra d0 d1 d2 d3 d4 d5 d6 d7 d8 d9 d10 d11 dlt
      go_wp2_with fail
      go_meet
      exact ⟨rfl, _, _, _, _, _, _, _, rfl, J9, P9⟩
    by_cases hk1 : ok = 1
    ·as_aux_lemma =>
     subst hk1
     have hsy := box (Pa.out.sync (by omega))
     go_wp2_with fail
     refine hsy.out.mono ?_
     rintro e w5 ⟨rfl, S5, G5, hst5, hsf5, hP5, hK5⟩
     have P5 := box hP5
     have J5 := box (Ja.out.keeps hK5 (fun e => Hn.out (.inl e)))
     have hs5 := box (show ∀ W', Calm w5 W' → Calls Tryz.prog 46 #[ptrTo t] W' fun e w' => e = .returned (.int .i64 (B.size : Int)) ∧ W' = w' from fun W' hc => by
      have h := (hP5.calm hc).synced_
      rw [hsf5, ← hP5.size] at h
      exact h)
     have he5 := box (fun W' (hc : Calm w5 W') => (hP5.calm hc).end_)
     clear hst5 hsf5 hP5 hK5 hsy d0 d1 d2 d3 d4 d5 d6 d7 d8 d9 d10 d11 dlt
     go_wp2_with fail
     refine (hs5.out _ (Calm.refl _)).mono ?_
     rintro e w6 ⟨rfl, rfl⟩
     go_wp2_with fail
     refine (he5.out _ (Calm.refl _)).mono ?_
     rintro e w7 ⟨rfl, rfl⟩
     go_wp2_with fail
     go_meet
     exact ⟨rfl, _, _, _, _, _, _, _, rfl, J5, P5⟩
    by_cases hk2 : ok = 2
    ·as_aux_lemma =>
     subst hk2
     have hdr := box (Pa.out.drop (by omega))
     have hbs : B.size ≤ 1000000 := by have := Pa.out.size; have := Pa.out.fin; omega
     have hss : S.R.start ≤ 1000000 := by
      obtain ⟨n0, hT0, _⟩ := Pa.out.tp
      have := hT0.holds.size
      have := Pa.out.fin
      omega
     go_wp2_with fail
     refine hdr.out.mono ?_
     rintro e w5 ⟨hR5, hK5, ⟨h1, rfl, G5, hP5⟩ | ⟨h1, rfl, hnx⟩⟩
     ·have hrd := box (rDrop_any hR5 hbs hss)
      have P5 := box hP5
      have J5 := box (Ja.out.keeps hK5 (fun e => Hn.out (.inl e)))
      have H1 := box h1
      have hct := box (fun W' (hc : Calm w5 W') => (hR5.calm hc).cells)
      clear hR5 hK5 hP5 hdr h1 d0 d1 d2 d3 d4 d5 d6 d7 d8 d9 d10 d11 dlt hbs hss
      go_wp2_with fail
      refine hrd.out.mono ?_
      rintro e w6 (⟨_, rfl, hc6⟩ | ⟨h2, _⟩)
      ·have P6 := box (P5.out.calm hc6)
       have J6 := box (J5.out.calm hc6)
       clear hc6 hrd hct
       go_wp2_with fail
       go_meet
       exact ⟨rfl, _, _, _, _, _, _, _, rfl, J6, P6⟩
      ·exact absurd h2 (by have := H1.out; omega)
     ·have hrd := box (rDrop_any hR5 hbs hss)
      have Hnx := box hnx
      have J5 := box (Ja.out.keeps hK5 (fun e => Hn.out (.inl e)))
      have H1 := box h1
      have Hbg := box (show b0 ≠ g from fun e => Hn.out (.inr (.inl e)))
      clear hR5 hK5 hnx hdr h1 d0 d1 d2 d3 d4 d5 d6 d7 d8 d9 d10 d11 dlt hbs hss
      go_wp2_with fail
      refine hrd.out.mono ?_
      rintro e w6 (⟨h2, _⟩ | ⟨_, rfl, hR6, hK6⟩)
      ·exact absurd h2 (by have := H1.out; omega)
      ·obtain ⟨S6, G6, hst6, hP6⟩ := Hnx.out w6 hR6 hK6
       have J6 := box (J5.out.keeps hK6 (fun e => Hbg.out e))
       have P6 := box hP6
       obtain ⟨z0, z1, z2, z3, zlt⟩ := hR6.cells
       have z1' : w6.cell? ⟨g, 1, none⟩ = some (.int .i64 (S.R.start + 1024 : Int)) := z1
       clear hR6 hK6 hP6 hst6 hrd z0 z1 z2 z3 Hnx
       go_wp2_with fail
       go_meet
       exact ⟨rfl, _, _, _, _, _, _, _, rfl, J6, P6⟩
    by_cases hk3 : ok = 3
    ·as_aux_lemma =>
     subst hk3
     by_cases hC : Hits A S.R.start on
     ·obtain ⟨i, hi, hxn, hsi⟩ := hC
      have hrd := Pa.out.reads hi hsi
      have hfn := fun W' (hc : Calm wa W') => (Pa.out.calm hc).found hi hsi
      have hsz := fun W' (hc : Calm wa W') => (Pa.out.calm hc).sized hi hsi
      have hokm := Pa.out.okm hi hsi
      have hrec := Pa.out.rt.rec_ hi
      have hsame := fun kv W' (hc : Calm W W') => Pa.out.same_ (w' := W') (kv := kv) (List.getElem_mem hi) hc
      have hkeys := (Pa.out.rt.msgs _ (List.getElem_mem hi)).1
      have hown := Pa.out.owns
      have t1 : decide ((0 : Int) ≤ on) = true := decide_eq_true (by omega)
      obtain ⟨st, hst⟩ : ∃ st, S.R.start = st := ⟨_, rfl⟩
      have t2 : decide (on < (st : Int)) = false := decide_eq_false (by omega)
      obtain ⟨⟨xn, xm, xkv⟩, hx⟩ : ∃ x, A[i] = x := ⟨_, rfl⟩
      rw [hx] at hrd hokm hrec hsame hkeys hxn
      simp only [hx] at hfn hsz
      simp only at hrd hokm hrec hsame hkeys hfn hsz hxn
      rw [hxn] at hrd
      simp only [hxn] at hfn hsz
      obtain ⟨xa, xcap, rfl, _⟩ := hkeys.uni
      obtain ⟨rb, rcap, hrl, hrcap, hrb, hrcell⟩ := hrec
      simp only [Value.slice.injEq] at hrl
      obtain ⟨rfl, rfl, rfl⟩ := hrl
      have hcs := box (fun W' (hc : Calm wa W') => (show RecC W' rb i xm (.slice xa xm.keys.length xcap) from RecC.of hrb hrcell hc))
      have hct := box (fun W' (hc : Calm wa W') => (show RTc W' g B st (.slice ia inn ic) (.slice (some ⟨rb, 0, none⟩) A.length lc) from by rw [← hst]; exact (Pa.out.calm hc).rt.cells))
      have Hrd := box hrd
      have Hfn := box hfn
      have Hsz := box hsz
      have Hok := box hokm
      have Hsame := box hsame
      have Hown := box hown
      clear hrd hfn hsz hokm hsame hkeys hown hst hx hxn hrcell hsi
      go_wp2_with fail
      refine Hrd.out.mono ?_
      rintro e w5 ⟨hc5, kv', rfl, hkv'⟩
      have Hkv := box hkv'
      obtain ⟨ya, ycap, rfl, _⟩ := hkv'.uni
      obtain ⟨wb, hwb⟩ : ∃ wb, w5.alloc (.cells (msgA xm (.slice ya xm.keys.length ycap)) 62) = wb := ⟨_, rfl⟩
      have Kb := box (show wb.heap[w5.heap.size]? = some (.cells (msgA xm (.slice ya xm.keys.length ycap)) 62 (0, 0)) by rw [← hwb]; exact heap_new w5 _)
      have Cb := box (show Calm wa wb by rw [← hwb]; exact hc5.trans ((Calm.refl w5).alloc _))
      have C5b := box (show Calm w5 wb by rw [← hwb]; exact (Calm.refl w5).alloc _)
      have Jb := box (Ja.out.calm Cb.out)
      clear hkv' hc5 Hrd d0 d1 d2 d3 d4 d5 d6 d7 d8 d9 d10 d11 dlt
      go_upto_region 38 with fail
      (try rw [hwb])
      clear hwb
      obtain ⟨mb, hmb⟩ : ∃ mb, w5.heap.size = mb := ⟨_, rfl⟩
      rw [hmb] at Kb ⊢
      clear hmb
      obtain ⟨d0, d1, d2, d3, d4, d5, d6, d7, d8, d9, d10, d11, dlt⟩ := Jb.out.cells
      go_wp2_with fail
      refine (Hfn.out _ Cb.out).mono ?_
      rintro e w6 ⟨rfl, hc6⟩
      have C6 := box (Cb.out.trans hc6)
      have Cb6 := box hc6
      have J6 := box (Jb.out.calm hc6)
      clear hc6 Hfn d0 d1 d2 d3 d4 d5 d6 d7 d8 d9 d10 d11 dlt
      obtain ⟨d0, d1, d2, d3, d4, d5, d6, d7, d8, d9, d10, d11, dlt⟩ := J6.out.cells
      obtain ⟨z0, z1, z2, z3, zlt⟩ := hct.out w6 C6.out
      go_upto_region 41 with fail
      go_quiet (fail)
      have C7 := box (C6.out.trans ((Calm.refl w6).drewN nq))
      have Cb7 := box (Cb6.out.trans ((Calm.refl w6).drewN nq))
      have J7 := box (J6.out.calm ((Calm.refl w6).drewN nq))
      clear d0 d1 d2 d3 d4 d5 d6 d7 d8 d9 d10 d11 dlt z0 z1 z2 z3 zlt
      go_upto_region 39 with fail
      obtain ⟨wq, hwq⟩ : ∃ wq, w6.drewN nq = wq := ⟨_, rfl⟩
      rw [hwq] at C7 Cb7 J7 ⊢
      clear hwq J6 C6 Cb6
      have hcm := box (fun W' (hc : Calm wq W') => (⟨cell_of (heap_calm (Cb7.out.trans hc) Kb.out) 0, cell_of (heap_calm (Cb7.out.trans hc) Kb.out) 1, cell_of (heap_calm (Cb7.out.trans hc) Kb.out) 2, cell_of (heap_calm (Cb7.out.trans hc) Kb.out) 3, cell_of (heap_calm (Cb7.out.trans hc) Kb.out) 4, cell_of (heap_calm (Cb7.out.trans hc) Kb.out) 5, cell_of (heap_calm (Cb7.out.trans hc) Kb.out) 6, cell_of (heap_calm (Cb7.out.trans hc) Kb.out) 7, cell_of (heap_calm (Cb7.out.trans hc) Kb.out) 8, cell_of (heap_calm (Cb7.out.trans hc) Kb.out) 9⟩ : MsgCells W' mb xm (.slice ya xm.keys.length ycap)))
      have hco := box (fun W' (hc : Calm wq W') => (J7.out.calm hc).cells.2.1)
      have hcr := box (fun W' (hc : Calm wq W') => hcs.out W' (C7.out.trans hc))
      have hcg := box (fun W' (hc : Calm wq W') => hct.out W' (C7.out.trans hc))
      have hss := box (fun W' (hc : Calm wq W') => Hsame.out (.slice ya xm.keys.length ycap) W' (Hown.out.trans (C7.out.trans hc)) (Hkv.out.calm (C5b.out.trans (Cb7.out.trans hc))))
      have hpp := box (fun W' (hc : Calm wq W') => rPut_ok (Hkv.out.calm (C5b.out.trans (Cb7.out.trans hc))) Hok.out)
      have hzz := box (fun W' (hc : Calm wq W') => Hsz.out W' (C7.out.trans hc))
      obtain ⟨c0, c1, c2, c3, clt⟩ := hcg.out wq (Calm.refl _)
      obtain ⟨r0, r1, r2, r3, r4, r5, r6, r7, r8, r9, rlt⟩ := hcr.out wq (Calm.refl _)
      obtain ⟨m0, m1, m2, m3, m4, m5, m6, m7, m8, m9⟩ := hcm.out wq (Calm.refl _)
      have o1 := hco.out wq (Calm.refl _)
      have mlt := heap_lt (heap_calm Cb7.out Kb.out)
      have olt := heap_lt J7.out
      clear Hsame hcs hct Hsz Hkv C5b Hok Kb Jb
      go_region_held3 (fun w' => RTc w' g B st (.slice ia inn ic) (.slice (some ⟨rb, 0, none⟩) A.length lc) ∧ RecC w' rb i xm (.slice xa xm.keys.length xcap) ∧ MsgCells w' mb xm (.slice ya xm.keys.length ycap) ∧ w'.cell? ⟨b0, 1, none⟩ = some (.int .i64 on)) (exact ⟨hcg.out _ (by (repeat' (first | (with_reducible exact Calm.refl _) | (with_reducible assumption) | (with_reducible refine Calm.drew ?_) | (with_reducible refine Calm.alloc ?_ _) | (with_reducible refine Calm.trans ?_ (by assumption))))), hcr.out _ (by (repeat' (first | (with_reducible exact Calm.refl _) | (with_reducible assumption) | (with_reducible refine Calm.drew ?_) | (with_reducible refine Calm.alloc ?_ _) | (with_reducible refine Calm.trans ?_ (by assumption))))), hcm.out _ (by (repeat' (first | (with_reducible exact Calm.refl _) | (with_reducible assumption) | (with_reducible refine Calm.drew ?_) | (with_reducible refine Calm.alloc ?_ _) | (with_reducible refine Calm.trans ?_ (by assumption))))), hco.out _ (by (repeat' (first | (with_reducible exact Calm.refl _) | (with_reducible assumption) | (with_reducible refine Calm.drew ?_) | (with_reducible refine Calm.alloc ?_ _) | (with_reducible refine Calm.trans ?_ (by assumption)))))⟩) (first
       | (go_at_call 37; refine (hss.out _ (by (repeat' (first | (with_reducible exact Calm.refl _) | (with_reducible assumption) | (with_reducible refine Calm.drew ?_) | (with_reducible refine Calm.alloc ?_ _) | (with_reducible refine Calm.trans ?_ (by assumption)))))).mono ?_; rintro e w8 ⟨rfl, hc8⟩)
       | (go_at_call 30; refine (hzz.out _ (by (repeat' (first | (with_reducible exact Calm.refl _) | (with_reducible assumption) | (with_reducible refine Calm.drew ?_) | (with_reducible refine Calm.alloc ?_ _) | (with_reducible refine Calm.trans ?_ (by assumption)))))).mono ?_; rintro e w9 ⟨rfl, rfl⟩)
       | (go_at_call 49; refine (hpp.out _ (by (repeat' (first | (with_reducible exact Calm.refl _) | (with_reducible assumption) | (with_reducible refine Calm.drew ?_) | (with_reducible refine Calm.alloc ?_ _) | (with_reducible refine Calm.trans ?_ (by assumption)))))).mono ?_; rintro e w10 ⟨rfl, hc10⟩))
      have C10 := box (show Calm wq w10 by (repeat' (first | (with_reducible exact Calm.refl _) | (with_reducible assumption) | (with_reducible refine Calm.drew ?_) | (with_reducible refine Calm.alloc ?_ _) | (with_reducible refine Calm.trans ?_ (by assumption)))))
      have P10 := box ((Pa.out.calm (C7.out.trans C10.out)).more)
      have J10 := box (J7.out.calm C10.out)
      clear c0 c1 c2 c3 clt r0 r1 r2 r3 r4 r5 r6 r7 r8 r9 rlt m0 m1 m2 m3 m4 m5 m6 m7 m8 m9 o1 mlt olt hcm hco hcr hcg hss hpp hzz hc8 hc10
      go_wp2_with fail
      go_meet
      exact ⟨rfl, t, S, G, B, A, _, _, rfl, J10, P10⟩
     ·have hrd := box (Pa.out.read_none hC)
      have hfn := box (fun W' (hc : Calm wa W') => (Pa.out.calm hc).find_none hC)
      have hsz := box (fun W' (hc : Calm wa W') => (Pa.out.calm hc).size_none hC)
      clear hC
      obtain ⟨st, hst⟩ : ∃ st, S.R.start = st := ⟨_, rfl⟩
      by_cases hA : 0 ≤ on ∧ on < (st : Int)
      ·have t1 : decide ((0 : Int) ≤ on) = true := decide_eq_true hA.1
       have t2 : decide (on < (st : Int)) = true := decide_eq_true hA.2
       have hrdB := hrd
       rw [hst, if_pos hA] at hrdB
       have hct := box (fun W' (hc : Calm wa W') => (show RTc W' g B st (.slice ia inn ic) (.slice lla lnn lc) from by rw [← hst]; exact (Pa.out.calm hc).rt.cells))
       clear hA hst
       go_wp2_with fail
       refine hrdB.out.mono ?_
       rintro e w5 ⟨hc5, rfl⟩
       have HC5 := box hc5
       clear hc5 hrd hrdB d0 d1 d2 d3 d4 d5 d6 d7 d8 d9 d10 d11 dlt
       go_upto_region 38 with fail
       obtain ⟨wb, hwb⟩ : ∃ wb, w5.alloc (.cells zeroA 62) = wb := ⟨_, rfl⟩
       have Cb := box (show Calm wa wb by rw [← hwb]; exact HC5.out.trans ((Calm.refl w5).alloc _))
       rw [hwb]
       have Jb := box (Ja.out.calm Cb.out)
       clear hwb
       obtain ⟨d0, d1, d2, d3, d4, d5, d6, d7, d8, d9, d10, d11, dlt⟩ := Jb.out.cells
       go_wp2_with fail
       refine (hfn.out _ Cb.out).mono ?_
       rintro e w6 ⟨rfl, hc6⟩
       have C6 := box (Cb.out.trans hc6)
       have J6 := box (Jb.out.calm hc6)
       clear hc6 hfn d0 d1 d2 d3 d4 d5 d6 d7 d8 d9 d10 d11 dlt
       obtain ⟨d0, d1, d2, d3, d4, d5, d6, d7, d8, d9, d10, d11, dlt⟩ := J6.out.cells
       obtain ⟨z0, z1, z2, z3, zlt⟩ := hct.out w6 C6.out
       go_upto_region 41 with fail
       go_quiet (fail)
       have P7 := box ((Pa.out.calm (C6.out.trans ((Calm.refl w6).drewN nq))).more)
       have J7 := box (J6.out.calm ((Calm.refl w6).drewN nq))
       go_wp2_with fail
       go_meet
       exact ⟨rfl, t, S, G, B, A, _, _, rfl, J7, P7⟩
      ·have hrdB := hrd
       rw [hst, if_neg hA] at hrdB
       have hct := box (fun W' (hc : Calm wa W') => (show RTc W' g B st (.slice ia inn ic) (.slice lla lnn lc) from by rw [← hst]; exact (Pa.out.calm hc).rt.cells))
       by_cases h0 : 0 ≤ on
       ·have t1 : decide ((0 : Int) ≤ on) = true := decide_eq_true h0
        have t2 : decide (on < (st : Int)) = false := decide_eq_false (fun e => hA ⟨h0, e⟩)
        clear hA hst h0
        go_wp2_with fail
        refine hrdB.out.mono ?_
        rintro e w5 ⟨hc5, rfl⟩
        have HC5 := box hc5
        clear hc5 hrd hrdB d0 d1 d2 d3 d4 d5 d6 d7 d8 d9 d10 d11 dlt
        go_upto_region 38 with fail
        obtain ⟨wb, hwb⟩ : ∃ wb, w5.alloc (.cells zeroA 62) = wb := ⟨_, rfl⟩
        have Cb := box (show Calm wa wb by rw [← hwb]; exact HC5.out.trans ((Calm.refl w5).alloc _))
        rw [hwb]
        have Jb := box (Ja.out.calm Cb.out)
        clear hwb
        obtain ⟨d0, d1, d2, d3, d4, d5, d6, d7, d8, d9, d10, d11, dlt⟩ := Jb.out.cells
        go_wp2_with fail
        refine (hfn.out _ Cb.out).mono ?_
        rintro e w6 ⟨rfl, hc6⟩
        have C6 := box (Cb.out.trans hc6)
        have J6 := box (Jb.out.calm hc6)
        clear hc6 hfn d0 d1 d2 d3 d4 d5 d6 d7 d8 d9 d10 d11 dlt
        obtain ⟨d0, d1, d2, d3, d4, d5, d6, d7, d8, d9, d10, d11, dlt⟩ := J6.out.cells
        obtain ⟨z0, z1, z2, z3, zlt⟩ := hct.out w6 C6.out
        go_upto_region 41 with fail
        go_quiet (fail)
        have C7 := box (C6.out.trans ((Calm.refl w6).drewN nq))
        have P7 := box ((Pa.out.calm C7.out).more)
        have J7 := box (J6.out.calm ((Calm.refl w6).drewN nq))
        go_wp2_with fail
        refine (hsz.out _ C7.out).mono ?_
        rintro e w8 ⟨rfl, rfl⟩
        go_wp2_with fail
        go_meet
        exact ⟨rfl, t, S, G, B, A, _, _, rfl, J7, P7⟩
       ·have t1 : decide ((0 : Int) ≤ on) = false := decide_eq_false h0
        clear hA hst h0
        go_wp2_with fail
        refine hrdB.out.mono ?_
        rintro e w5 ⟨hc5, rfl⟩
        have HC5 := box hc5
        clear hc5 hrd hrdB d0 d1 d2 d3 d4 d5 d6 d7 d8 d9 d10 d11 dlt
        go_upto_region 38 with fail
        obtain ⟨wb, hwb⟩ : ∃ wb, w5.alloc (.cells zeroA 62) = wb := ⟨_, rfl⟩
        have Cb := box (show Calm wa wb by rw [← hwb]; exact HC5.out.trans ((Calm.refl w5).alloc _))
        rw [hwb]
        have Jb := box (Ja.out.calm Cb.out)
        clear hwb
        obtain ⟨d0, d1, d2, d3, d4, d5, d6, d7, d8, d9, d10, d11, dlt⟩ := Jb.out.cells
        go_wp2_with fail
        refine (hfn.out _ Cb.out).mono ?_
        rintro e w6 ⟨rfl, hc6⟩
        have C6 := box (Cb.out.trans hc6)
        have J6 := box (Jb.out.calm hc6)
        clear hc6 hfn d0 d1 d2 d3 d4 d5 d6 d7 d8 d9 d10 d11 dlt
        obtain ⟨d0, d1, d2, d3, d4, d5, d6, d7, d8, d9, d10, d11, dlt⟩ := J6.out.cells
        obtain ⟨z0, z1, z2, z3, zlt⟩ := hct.out w6 C6.out
        go_upto_region 41 with fail
        go_quiet (fail)
        have C7 := box (C6.out.trans ((Calm.refl w6).drewN nq))
        have P7 := box ((Pa.out.calm C7.out).more)
        have J7 := box (J6.out.calm ((Calm.refl w6).drewN nq))
        go_wp2_with fail
        refine (hsz.out _ C7.out).mono ?_
        rintro e w8 ⟨rfl, rfl⟩
        go_wp2_with fail
        go_meet
        exact ⟨rfl, t, S, G, B, A, _, _, rfl, J7, P7⟩
    by_cases hk4 : ok = 4
    ·as_aux_lemma =>
     subst hk4
     have hop := box (Pa.out.open_ HT.out (by omega))
     go_wp2_with fail
     refine hop.out.mono ?_
     rintro e w5 ⟨t5, S5, G5, rfl, hst5, hsf5, hP5, hK5⟩
     have P5 := box hP5
     have J5 := box (Ja.out.keeps hK5 (fun e => Hn.out (.inl e)))
     have hs5 := box (show ∀ W', Calm w5 W' → Calls Tryz.prog 46 #[ptrTo t5] W' fun e w' => e = .returned (.int .i64 (B.size : Int)) ∧ W' = w' from fun W' hc => by
      have h := (hP5.calm hc).synced_
      rw [hsf5, ← hP5.size] at h
      exact h)
     have he5 := box (fun W' (hc : Calm w5 W') => (hP5.calm hc).end_)
     clear hst5 hsf5 hP5 hK5 hop d0 d1 d2 d3 d4 d5 d6 d7 d8 d9 d10 d11 dlt
     go_wp2_with fail
     refine (hs5.out _ (Calm.refl _)).mono ?_
     rintro e w6 ⟨rfl, rfl⟩
     go_wp2_with fail
     refine (he5.out _ (Calm.refl _)).mono ?_
     rintro e w7 ⟨rfl, rfl⟩
     go_wp2_with fail
     go_meet
     exact ⟨rfl, _, _, _, _, _, _, _, rfl, J5, P5⟩
    have s0 : (ok == 0) = false := beq_eq_false_iff_ne.2 hk0
    have s1 : (ok == 1) = false := beq_eq_false_iff_ne.2 hk1
    have s2 : (ok == 2) = false := beq_eq_false_iff_ne.2 hk2
    have s3 : (ok == 3) = false := beq_eq_false_iff_ne.2 hk3
    have s4 : (ok == 4) = false := beq_eq_false_iff_ne.2 hk4
    clear hk0 hk1 hk2 hk3 hk4
    have P6 := box Pa.out.more
    go_wp2_with fail
    go_meet
    exact ⟨rfl, t, S, G, B, A, _, _, rfl, Ja, P6⟩
   case rest =>
    obtain ⟨rfl, t', S', G', B', A', il', lv', rfl, HJ, HP⟩ := hcut
    clear d0 d1 d2 d3 d4 d5 d6 d7 d8 d9 d10 d11 dlt Ja Pa Fa Zm Ca Hn Hkw
    have hhas := box (has_any HP.out (by omega))
    obtain ⟨d0, d1, d2, d3, d4, d5, d6, d7, d8, d9, d10, d11, dlt⟩ := HJ.out.cells
    go_wp2_with fail
    refine hhas.out.mono ?_
    rintro e w5 ⟨rfl, hc5⟩
    have P5 := box (HP.out.calm hc5)
    have J5 := box (HJ.out.calm hc5)
    clear hc5 hhas d0 d1 d2 d3 d4 d5 d6 d7 d8 d9 d10 d11 dlt HJ HP
    obtain ⟨d0, d1, d2, d3, d4, d5, d6, d7, d8, d9, d10, d11, dlt⟩ := J5.out.cells
    have hfr := box (P5.out.from__ (by omega) on)
    go_wp2_with fail
    refine hfr.out.mono ?_
    rintro e w6 ⟨fa, fc, rfl, hfi, hc6⟩
    have P6 := box (P5.out.calm hc6)
    have J6 := box (J5.out.calm hc6)
    have F6 := box hfi
    clear hc6 hfr hfi d0 d1 d2 d3 d4 d5 d6 d7 d8 d9 d10 d11 dlt J5 P5
    obtain ⟨d0, d1, d2, d3, d4, d5, d6, d7, d8, d9, d10, d11, dlt⟩ := J6.out.cells
    have hnx := box (P6.out.next_ (by omega) on)
    go_wp2_with fail
    refine hnx.out.mono ?_
    rintro e w7 ⟨rfl, hc7⟩
    have P7 := box (P6.out.calm hc7)
    have J7 := box (J6.out.calm hc7)
    have F7 := box (F6.out.calm hc7)
    clear hc7 hnx d0 d1 d2 d3 d4 d5 d6 d7 d8 d9 d10 d11 dlt J6 P6 F6
    obtain ⟨d0, d1, d2, d3, d4, d5, d6, d7, d8, d9, d10, d11, dlt⟩ := J7.out.cells
    have hid := box (P7.out.ids_ (by omega) on)
    have hlen : (fromR A' S'.R.start on).length ≤ 500 := by have := fromR_le A' S'.R.start on; have := P7.out.few; omega
    obtain ⟨L, hfE⟩ : ∃ L, fromR A' S'.R.start on = L := ⟨_, rfl⟩
    rw [hfE] at F7 hid hlen ⊢
    clear hfE
    have Pn := box P7.out
    cases L with
    | nil =>
     obtain ⟨fa1, fc1, hq, _, _⟩ := F7.out
     clear hq
     go_upto_region 56 with fail
     clear d0 d2 d3 d4 d5 d6 d7 d8 d9 d10 d11
     go_wp2_with fail
     refine hid.out.mono ?_
     rintro e w8 ⟨_, rfl, ⟨xa, xn, xc, rfl⟩, hi8, hc8⟩
     have C8 := box hc8
     have hin := box (ints_eq hi8 (F7.out.calm hc8))
     clear hi8 hc8 hid d1 dlt
     go_wp2_with fail
     refine hin.out.mono ?_
     rintro e w9 ⟨rfl, hc9⟩
     have P9 := box (Pn.out.calm (C8.out.trans hc9))
     clear hc9 hin
     go_wp2_with fail
     go_roundw
     case rel => exact ⟨k + 1, t', S', G', B', A', il', lv', by omega, rfl, by go_num, P9⟩
     case measure => simp [intOf]; omega
    | cons x xs =>
     obtain ⟨fa1, fc1, hq, _, hcell⟩ := F7.out
     obtain ⟨fb, fo, hfa, hfb, hfc⟩ := hcell 0 (by simp)
     simp only [List.map_cons, List.length_cons, List.length_map, Value.slice.injEq, List.getElem_cons_zero, Nat.add_zero] at hq hfc
     obtain ⟨rfl, _, rfl⟩ := hq
     subst hfa
     have Hfb := box hfb
     have Hfc := box hfc
     have hlen2 : xs.length + 1 ≤ 500 := hlen
     clear hcell hfb hfc hlen
     go_upto_region 56 with fail
     clear d0 d2 d3 d4 d5 d6 d7 d8 d9 d10 d11
     go_wp2_with fail
     refine hid.out.mono ?_
     rintro e w8 ⟨_, rfl, ⟨xa, xn, xc, rfl⟩, hi8, hc8⟩
     have C8 := box hc8
     have hin := box (ints_eq hi8 (F7.out.calm hc8))
     clear hi8 hc8 hid d1 dlt
     go_wp2_with fail
     refine hin.out.mono ?_
     rintro e w9 ⟨rfl, hc9⟩
     have P9 := box (Pn.out.calm (C8.out.trans hc9))
     have q0 := ((C8.out.trans hc9).cell (p := ⟨fb, fo, none⟩) Hfb.out).trans Hfc.out
     have qlt := Nat.lt_of_lt_of_le Hfb.out (C8.out.trans hc9).size
     clear hc9 hin
     go_wp2_with fail
     go_roundw
     case rel => exact ⟨k + 1, t', S', G', B', A', il', lv', by omega, rfl, by go_num, P9⟩
     case measure => simp [intOf]; omega
  ·have he : k = l.length := by omega
   subst he
   have HO := box HP.out.owns
   clear HP
   go_wp2_with fail
   go_ret
   exact ⟨rfl, HO.out⟩
end Go.Proofs.YtjpokaifbnkmhaaGreatDoor.tp
