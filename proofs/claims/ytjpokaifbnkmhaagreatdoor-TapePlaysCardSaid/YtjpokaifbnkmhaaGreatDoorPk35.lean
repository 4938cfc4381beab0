/- Lemmas for this claim. -/
import Derived.Test.YtjpokaifbnkmhaaGreatDoorPk34
set_option maxRecDepth 100000
namespace Go.Proofs.YtjpokaifbnkmhaaGreatDoor.tp
open Go.ChangeShapes Go.WideShapes Go.ChangeAt Go.RowKit Go.ChangeMaps Go.MapKept
open rc oc cr dk sg
structure Lt (W : World) (t p c k : Nat) (S : TS) (G : Nat → Prop) (w : World) : Prop where
 tp : ∃ n, Tp W t p n S G w ∧ n ≤ 2 * k
 alive : Alive S.D
 cap : S.D.cap = (c : Int)
 fin : S.R.fin ≤ 1345 * k
 size : S.D.size ≤ 1345 * k
 files : S.D.files.length ≤ 2 * k
 names : ∀ f ∈ S.D.files, f.name.size ≤ 1000
 tight : Tight S.R
 synced : S.R.synced ≤ S.R.fin
section
variable {W w w' : World} {t p n r sb mb c m k : Nat} {D D' E : DiskS} {R R' : RowS} {L : List (Nat × MsgS)} {last : Int} {F F' G G' : Nat → Prop} {v v' iv : Value} {S S' : TS} {b : List UInt8} {ps : List Pc} {tl : List UInt8}
theorem Lt.calm (h : Lt W t p c k S G w) (hc : Calm w w') : Lt W t p c k S G w' := by
 obtain ⟨n, h1, h2⟩ := h.tp
 exact ⟨⟨n, h1.calm hc, h2⟩, h.alive, h.cap, h.fin, h.size, h.files, h.names, h.tight, h.synced⟩
theorem Lt.owns (h : Lt W t p c k S G w) : Calm W w := by
 obtain ⟨n, h1, _⟩ := h.tp
 exact h1.owns
theorem Lt.lt (h : Lt W t p c k S G w) : ∀ b, G b → b < w.heap.size := by
 obtain ⟨n, h1, _⟩ := h.tp
 exact h1.lt
theorem Lt.able (h : Lt W t p c k S G w) : Able S.D c (1347 * k) :=
 ⟨h.alive, h.cap, by have := h.size; omega, by have := h.files; rw [List.length_map]; omega, fun s hs => by
  obtain ⟨f, hf, rfl⟩ := List.mem_map.1 hs
  exact h.names f hf⟩
theorem cost_le (e : Nat) (m : MsgS) : costP e m ≤ 1345 := by
 unfold costP
 split
 ·rename_i hok
  have hb := recB_bounds hok.1 hok.2
  unfold laidP
  split
  ·rw [flat_len_cons, flat_nil, Pc.len_one]; simp; omega
  ·rw [flat_len_cons, flat_len_cons, flat_nil, Pc.len_one]
   by_cases h3 : 3 ≤ roomAt e
   ·rw [Pc.len_fill h3]; unfold roomAt; simp; omega
   ·have h4 : (Pc.fill (roomAt e)).len ≤ 1024 := by
     show (fillB _).data.toList.length ≤ _
     rw [size_toList]
     show (_ : List UInt8).toArray.size ≤ _
     simp [oc.low_length]
     omega
    simp; omega
 ·omega
def LtApp (W : World) (t p c k : Nat) (S : TS) (m : MsgS) (G : Nat → Prop) (w : World) (e : Ending) (w' : World) : Prop :=
 (¬ okM m ∧ e = .returned (.tuple #[.int .i64 0, .int .i64 1]) ∧ ∃ G', Lt W t p c (k + 1) S G' w' ∧ Step G w G' w') ∨
 (okM m ∧ (c : Int) - S.D.size < (costP S.R.fin m : Int) ∧ e = .returned (.tuple #[.int .i64 0, .int .i64 7]) ∧ ∃ G', Lt W t p c (k + 1) S G' w' ∧ Step G w G' w') ∨
 (okM m ∧ (costP S.R.fin m : Int) ≤ (c : Int) - S.D.size ∧ e = .returned (.tuple #[.int .i64 (idP S.R.fin m : Int), .int .i64 0]) ∧ ∃ S' G', TpDone S m S' ∧ Lt W t p c (k + 1) S' G' w' ∧ Step G w G' w')
theorem Lt.append (h : Lt W t p c k S G w) (hk : k ≤ 500) (m : MsgS) (kv : Value) (hm : Fair w m kv) :
  Calls Tryz.prog 29 #[ptrTo t, .agg (msgA m kv)] w (LtApp W t p c k S m G w) := by
 obtain ⟨n, h1, h2⟩ := h.tp
 have hf := h.fin
 refine (Append_any m kv w h1 hm (by omega) (by omega)).mono ?_
 rintro e w' ⟨S', G', h3, h4, ⟨a1, rfl, rfl⟩ | ⟨a1, a2, _⟩ | ⟨a1, a2, a3, rfl, rfl⟩ | ⟨a1, a2, a3, _, a4⟩ | ⟨a1, a2, a3, rfl, a4⟩⟩
 ·exact .inl ⟨a1, rfl, G', ⟨⟨_, h3, by omega⟩, h.alive, h.cap, by have := h.fin; omega, by have := h.size; omega, by have := h.files; omega, h.names, h.tight, h.synced⟩, h4⟩
 ·rw [h.alive.down] at a2; cases a2
 ·rw [h.cap] at a3
  exact .inr (.inl ⟨a1, a3, rfl, G', ⟨⟨_, h3, by omega⟩, h.alive, h.cap, by have := h.fin; omega, by have := h.size; omega, by have := h.files; omega, h.names, h.tight, h.synced⟩, h4⟩)
 ·exact absurd h.alive a4.dead
 ·rw [h.cap] at a3
  have hc := cost_le S.R.fin m
  refine .inr (.inr ⟨a1, a3, rfl, S', G', a4, ⟨⟨_, h3, by omega⟩, a4.alive h.alive, a4.cap.trans h.cap, ?_, ?_, ?_, a4.names h.names, a4.tight, ?_⟩, h4⟩)
  ·have := a4.fin; omega
  ·have := a4.size; have := h.size; omega
  ·have := a4.few; have := h.files; omega
  ·have := a4.kin.synced; have := a4.fin; have := h.synced; omega
theorem Lt.size_ (h : Lt W t p c k S G w) (a : Int) : Calls Tryz.prog 30 #[ptrTo t, .int .i64 a] w fun e w' => e = .returned (.int .i64 (sizeOf' S.recs a : Int)) ∧ w = w' := by
 obtain ⟨n, h1, _⟩ := h.tp
 exact Size_any a w h1
theorem open_new (c : Nat) (hc24 : c ≤ 16777216) (hd : DiskOk w p (dk.new (c : Int)) F 0) (ht : Tab W) (hcW : Calm W w) (hfW : ∀ b, F b → W.heap.size ≤ b) :
  Calls Tryz.prog 26 #[ptrTo p] w fun e w' => ∃ t S G, e = .returned (.tuple #[ptrTo t, .int .i64 0]) ∧ Lt W t p c 0 S G w' ∧ Step F w G w' ∧ S.ps = [] ∧ S.R.start = 0 := by
 have hH : Holds (dk.new (c : Int)) ⟨tapeN, 1024, 0, 0, 0, 0⟩ (flat [] ++ []) := Holds.none (by decide) (by decide) (fun k _ => rfl)
 have hal := new_alive (c : Int)
 have ho := Holds.open hH hal hd.form
 have hA := Able.new c hc24
 refine (Open_any (ps := []) (tl := []) (E := dk.new (c : Int)) (R := ⟨tapeN, 1024, 0, 0, 0, 0⟩) (c := c) (m := 0) w hd ht hcW hfW (by decide) (fun f hf => by cases hf) (Nat.zero_le _) ho hH hA rfl rfl rfl trivial (.inl rfl) (Nat.zero_le _)).mono ?_
 rintro e w' ⟨t, D', R', last, G', rfl, _, hO⟩
 have h0 : R'.fin = 0 := hO.fin
 refine ⟨t, ⟨D', R', [], last⟩, G', rfl, ⟨⟨0, hO.tp, Nat.le_refl _⟩, hO.able.alive, hO.able.cap, Nat.le_of_eq h0, hO.able.size, ?_, ?_, hO.tight (.inl (Nat.zero_le _)), Nat.le_of_eq hO.synced⟩, hO.step, rfl, hO.start⟩
 ·have := hO.able.few
  rw [List.length_map] at this
  exact this
 ·exact fun f hf => hO.able.names f.name (List.mem_map.2 ⟨f, hf, rfl⟩)
end
abbrev aM : MsgS := ⟨1, 0, 0, 0, 0, 0, ⟨#[97]⟩, ⟨#[]⟩, ⟨#[]⟩, []⟩
theorem aM_ok : okM aM := of_decide_eq_true (by kernel_rfl)
theorem aM_fair (w : World) : Fair w aM (.slice none 0 0) := ⟨.inl ⟨rfl, none, 0, rfl⟩, (fun s hs => by cases hs), by decide, by decide⟩
theorem one_id {e : Nat} {m : MsgS} (h : okM m) (he : e % 1024 ≤ 600) : goesIn e (recB m).size ∧ idP e m = e ∧ costP e m = (recB m).size ∧ laidP e m = [.one m] := by
 have hb := recB_bounds h.1 h.2
 have hg : goesIn e (recB m).size := by unfold goesIn roomAt; omega
 have hl : laidP e m = [.one m] := by unfold laidP; rw [if_pos hg]
 refine ⟨hg, by unfold idP; rw [if_pos hg], ?_, hl⟩
 rw [cost_laid h, hl, flat_len_cons, flat_nil, Pc.len_one]; rfl
theorem step_block {F G : Nat → Prop} {w w' : World} (h : Step F w G w') {b : Nat} {o : Obj} (hb : w.heap[b]? = some o) (hn : ¬ F b) : w'.heap[b]? = some o := h.same hb hn
section
variable {W w w' : World} {t p n c k : Nat} {S S' : TS} {G G' : Nat → Prop}
theorem Lt.end_ok (h : Lt W t p c k S G w) : S.R.fin % 1024 = 0 ∨ S.R.fin % 1024 + 3 ≤ 1024 := by
 obtain ⟨n, h1, _⟩ := h.tp
 exact h1.end_ok
theorem Lt.ends (h : Lt W t p c k S G w) : S.R.fin = S.R.start + (flat S.ps).length := by
 obtain ⟨n, h1, _⟩ := h.tp
 exact h1.holds.size
theorem Lt.recs (h : Lt W t p c k S G w) {m : MsgS} (hd : TpDone S m S') : S'.recs = S.recs ++ [(idP S.R.fin m, m)] := by
 show tp.recs S'.R.start S'.ps = tp.recs S.R.start S.ps ++ _
 rw [hd.ps, hd.kin.start, recs_append, ← h.ends, laid_recs h.end_ok]
end
set_option maxHeartbeats 8000000 in
theorem awake_any (W : World) (ht : Tab W) : Calls Tryz.prog 24 #[] W fun e w' => e = .returned (.bool true) ∧ Calm W w' := by
 have HT := box ht
 clear ht
 go_enter Tryz.func24, Tryz.ntmps24
 go_wp2_with fail
 refine (New_ok _ 10000).mono ?_
 rintro e w1 ⟨p, F1, rfl, hd1, hc1, hF1⟩
 have hopen := box (open_new 10000 (by decide) hd1 HT.out hc1 hF1)
 clear hd1 hc1 hF1
 go_wp2_with fail
 refine hopen.out.mono ?_
 rintro e w2 ⟨t, S, G, rfl, hL, _, hps, hst⟩
 have J3 := box (heap_new w2 (.cells (msgA aM (.slice none 0 0)) 62))
 have C3 := box ((Calm.refl w2).alloc (.cells (msgA aM (.slice none 0 0)) 62))
 have HL3 := box (hL.calm C3.out)
 have hn3 := box (show ¬ G w2.heap.size from fun e => Nat.lt_irrefl _ (hL.lt _ e))
 have hfin0 : S.R.fin = 0 := by have := hL.fin; omega
 obtain ⟨g1, g2, g3, g4⟩ := one_id (e := S.R.fin) aM_ok (by omega)
 have Hid := box g2
 have Hco := box g3
 have Hla := box g4
 have Hps := box hps
 have Hst := box hst
 have Hf0 := box hfin0
 have hsz0 := hL.size
 have happ := box (HL3.out.append (by decide) aM (.slice none 0 0) (aM_fair _))
 clear hL hopen hps hst hfin0 g1 g2 g3 g4
 have c0 := cell_of J3.out 0
 have c1 := cell_of J3.out 1
 have c2 := cell_of J3.out 2
 have c3 := cell_of J3.out 3
 have c4 := cell_of J3.out 4
 have c5 := cell_of J3.out 5
 have c6 := cell_of J3.out 6
 have c7 := cell_of J3.out 7
 have c8 := cell_of J3.out 8
 have c9 := cell_of J3.out 9
 have clt := heap_lt J3.out
 go_wp2_with fail
 refine happ.out.mono ?_
 have hf0 := Hf0.out
 have hok := aM_ok
 have hbb := recB_bounds hok.1 hok.2
 have hci : costP S.R.fin aM = (recB aM).size := Hco.out
 have hn0 : HL3.out.cap = HL3.out.cap := rfl
 rintro e w3 (⟨a1, _⟩ | ⟨a1, a2, _⟩ | ⟨a1, a2, rfl, S1, G1, hD1, hL1, hS1⟩)
 ·exact absurd hok a1
 ·exact absurd a2 (by omega)
 have hrec := HL3.out.recs hD1
 have hps1 := Hps.out
 have hr0 : S.recs = [] := by show tp.recs S.R.start S.ps = []; rw [hps1]; rfl
 rw [hr0, Hid.out, hf0] at hrec
 have hfin1 : S1.R.fin = (recB aM).size := by have := hD1.fin; omega
 have hsz1 := hD1.size
 have hcell := step_block hS1 J3.out hn3.out
 have Hid0 := box (show idP S.R.fin aM = 0 from by rw [Hid.out]; exact hf0)
 obtain ⟨g1, g2, g3, g4⟩ := one_id (e := S1.R.fin) aM_ok (by omega)
 have Hid1 := box g2
 have Hsize := box (show sizeOf' (S1.recs ++ [(idP S1.R.fin aM, aM)]) 0 = S1.R.fin from by
  rw [hrec, hfin1]; rfl)
 have hap2 := box (hL1.append (by decide) aM (.slice none 0 0) (aM_fair _))
 have Hf1 := box hfin1
 have HL4 := box hL1
 have Hc4 := box g3
 have hs4 := box hsz1
 have S4 := box hS1
 have H0 := box (show S.D.size ≤ 0 from by omega)
 clear hS1 hsz1 g1 g2 g3 g4 hrec hL1 hfin1 hn0 hci hps1 hr0 hf0
 have d0 := cell_of hcell 0
 have d1 := cell_of hcell 1
 have d2 := cell_of hcell 2
 have d3 := cell_of hcell 3
 have d4 := cell_of hcell 4
 have d5 := cell_of hcell 5
 have d6 := cell_of hcell 6
 have d7 := cell_of hcell 7
 have d8 := cell_of hcell 8
 have d9 := cell_of hcell 9
 have dlt := heap_lt hcell
 go_wp2_with fail
 refine hap2.out.mono ?_
 have q1 := Hf1.out
 have q2 := hs4.out
 have q3 := Hc4.out
 have q5 := Hco.out
 have q4 : S1.D.size ≤ 321 := by have := H0.out; omega
 rintro e w4 (⟨a1, _⟩ | ⟨a1, a2, _⟩ | ⟨a1, a2, rfl, S2, G2, hD2, hL2, hS2⟩)
 ·exact absurd aM_ok a1
 ·exact absurd a2 (by omega)
 have hrec2 := HL4.out.recs hD2
 have hsz := hL2.size_ 0
 rw [hrec2, Hsize.out] at hsz
 have hSZ := box hsz
 have i2 : idP S1.R.fin aM = S1.R.fin := Hid1.out
 have i1 := Hid0.out
 have hpos : 0 < S1.R.fin := by omega
 have hown := box hL2.owns
 clear hsz hrec2 hS2 hD2 hL2 q2 q3 q4 q5 a2 hap2 happ
 generalize hz1 : S1.R.fin = z1 at *
 go_wp2_with fail
 refine hSZ.out.mono ?_
 rintro e w5 ⟨rfl, rfl⟩
 go_wp2_with fail
 go_ret
 exact ⟨rfl, hown.out⟩
end Go.Proofs.YtjpokaifbnkmhaaGreatDoor.tp
