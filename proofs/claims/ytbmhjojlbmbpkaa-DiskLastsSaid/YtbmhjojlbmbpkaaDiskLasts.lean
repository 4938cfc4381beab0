/- DiskLasts: a file that was synced, and not called since, stays as it is. No condition. -/
import Derived.Test.YtbmhjojlbmbpkaaDiskS
namespace Go.Proofs.Ytbmhjojlbmbpkaa.dlasts
open Go.ChangeShapes Go.WideShapes Go.ChangeAt Go.RowKit
open Go.Proofs.Ytbmhjojlbmbpkaa.dk

abbrev nK : ByteArray := ⟨#[107, 101, 101, 112, 32, 116, 104, 105, 115, 32, 115, 97, 102, 101]⟩
/-- The file's bytes last. -/
def Safe (D : DiskS) (s : ByteArray) : Prop := ∃ f, D.find nK = some f ∧ f.now = s ∧ f.image = s ∧ ∀ x ∈ D.waits, x.blk ≠ f.blk
variable {D : DiskS} {s : ByteArray}

theorem Safe.all (h : Safe D s) : D.all nK = if D.down then (⟨#[]⟩, 8) else (s, 0) := by
  obtain ⟨f, h1, h2, _, _⟩ := h
  unfold DiskS.all; rw [h1]; split <;> simp [h2]
theorem Safe.burn (h : Safe D s) : Safe D.burn s := by
  obtain ⟨f, h1, h2, h3, h4⟩ := h
  exact ⟨f, by rw [burn_find]; exact h1, h2, h3, by rw [burn_files.2.1]; exact h4⟩
theorem Safe.doing (h : Safe D s) {f : DiskS → DiskS} (hf : Safe D.burn s → Safe (f D.burn) s) : Safe (D.doing f).2 s := by
  unfold DiskS.doing; split
  · exact h.burn
  · exact hf h.burn
theorem find_turn {a b : ByteArray} (h : a ≠ b) (g : FileS → FileS) (hg : ∀ x, (g x).name = x.name) : (D.turn a g).find b = D.find b := by
  unfold DiskS.find DiskS.turn
  simp only
  generalize D.files = l
  induction l with
  | nil => rfl
  | cons x l ih =>
    simp only [List.map_cons, List.find?_cons]
    by_cases hx : x.name = a
    · have hxb : ¬ x.name = b := fun e => h (hx.symm.trans e)
      simp only [hx, if_true, hg]
      rw [ih]
      simp [h]
    · simp only [if_neg hx]
      rw [ih]
theorem Safe.turn (h : Safe D s) {a : ByteArray} (ha : a ≠ nK) (g : FileS → FileS) (hg : ∀ x, (g x).name = x.name) : Safe (D.turn a g) s := by
  obtain ⟨f, h1, h2, h3, h4⟩ := h
  exact ⟨f, by rw [find_turn ha g hg]; exact h1, h2, h3, h4⟩
theorem Safe.without (h : Safe D s) (b : Nat) : Safe (D.without b) s := by
  obtain ⟨f, h1, h2, h3, h4⟩ := h
  exact ⟨f, h1, h2, h3, fun x hx => h4 x (List.mem_filter.1 hx).1⟩
theorem Safe.last (h : Safe D s) {a : ByteArray} (ha : a ≠ nK) : Safe (D.last a) s := by
  unfold DiskS.last
  split
  · exact h
  · exact (h.turn ha (fun f => { f with image := f.now }) (fun _ => rfl)).without _
theorem Safe.lasts (l : List ByteArray) : ∀ {D : DiskS}, Safe D s → (∀ n ∈ l, n ≠ nK) → Safe (l.foldl DiskS.last D) s := by
  induction l with
  | nil => exact fun h _ => h
  | cons n l ih => exact fun h hn => ih (h.last (hn n (List.mem_cons_self ..))) (fun m hm => hn m (List.mem_cons_of_mem _ hm))
theorem Safe.drop (h : Safe D s) {a : ByteArray} (ha : a ≠ nK) : Safe (D.drop a) s := by
  obtain ⟨f, h1, h2, h3, h4⟩ := h
  refine ⟨f, by rw [drop_find (Ne.symm ha)]; exact h1, h2, h3, ?_⟩
  unfold DiskS.drop
  split
  · exact h4
  · exact fun x hx => h4 x (List.mem_filter.1 hx).1
theorem Safe.drops (l : List ByteArray) : ∀ {D : DiskS}, Safe D s → (∀ n ∈ l, n ≠ nK) → Safe (l.foldl DiskS.drop D) s := by
  induction l with
  | nil => exact fun h _ => h
  | cons n l ih => exact fun h hn => ih (h.drop (hn n (List.mem_cons_self ..))) (fun m hm => hn m (List.mem_cons_of_mem _ hm))

theorem Safe.create (h : Safe D s) (a : ByteArray) (b : Nat) : Safe (D.create a b).2 s := by
  unfold DiskS.create; split; exact h
  split; exact h
  refine h.doing fun hb => ?_
  obtain ⟨f, h1, h2, h3, h4⟩ := hb
  refine ⟨f, ?_, h2, h3, h4⟩
  unfold DiskS.find at h1 ⊢
  rw [List.find?_append, h1]; rfl
theorem Safe.write (h : Safe D s) (hF : dk.Form D) {a : ByteArray} (ha : a ≠ nK) (k : Int) (t : ByteArray) : Safe (D.write a k t).2 s := by
  unfold DiskS.write; split; exact h
  split; exact h
  rename_i g hg
  split; exact h
  split; exact h
  refine h.doing fun hb => ?_
  split; exact hb
  obtain ⟨f, h1, h2, h3, h4⟩ := hb.turn ha (fun f => { f with now := laid f.now k.toNat t }) (fun _ => rfl)
  refine ⟨f, h1, h2, h3, fun x hx => ?_⟩
  rcases List.mem_append.1 hx with hx | hx
  · exact h4 x hx
  · rw [List.mem_singleton] at hx
    subst hx
    rw [find_turn ha (fun f => { f with now := laid f.now k.toNat t }) (fun _ => rfl), burn_find] at h1
    intro e
    have : g = f := nodup_inj hF.blks (find_some hg).1 (find_some h1).1 e
    subst this
    exact ha ((find_some hg).2.symm.trans (find_some h1).2)
theorem Safe.sync (h : Safe D s) {l : List ByteArray} (hl : ∀ n ∈ l, n ≠ nK) : Safe (D.sync l).2 s := by
  unfold DiskS.sync; split; exact h
  exact h.doing fun hb => Safe.lasts l hb hl
theorem Safe.cut (h : Safe D s) {a : ByteArray} (ha : a ≠ nK) (k : Int) : Safe (D.cut a k).2 s := by
  unfold DiskS.cut; split; exact h
  split; exact h
  split; exact h
  exact h.doing fun hb => (hb.turn ha (fun f => { f with now := f.now.extract 0 k.toNat }) (fun _ => rfl)).last ha
theorem Safe.delete (h : Safe D s) {l : List ByteArray} (hl : ∀ n ∈ l, n ≠ nK) : Safe (D.delete l).2 s := by
  unfold DiskS.delete; split; exact h
  exact h.doing fun hb => Safe.drops l hb hl
theorem Safe.rename (h : Safe D s) {a b : ByteArray} (ha : a ≠ nK) (hb : b ≠ nK) : Safe (D.rename a b).2 s := by
  unfold DiskS.rename; split; exact h
  split; exact h
  refine h.doing fun h' => ?_
  split; exact h'
  obtain ⟨f, h1, h2, h3, h4⟩ := h'.drop hb
  refine ⟨f, ?_, h2, h3, h4⟩
  unfold DiskS.find at h1 ⊢
  simp only
  rw [List.find?_append, List.find?_filter]
  have : (D.burn.drop b).files.find? (fun x => decide ((!decide (x.name = a)) = true ∧ decide (x.name = nK) = true)) = (D.burn.drop b).files.find? (fun x => decide (x.name = nK)) := by
    congr 1; funext x
    by_cases hx : x.name = nK
    · simp [hx, Ne.symm ha]
    · simp [hx]
  rw [this, h1]; rfl
theorem lays_other (b : Nat) : ∀ (K : List WaitS) (i : ByteArray), (∀ y ∈ K, y.blk ≠ b) → lays i b K = i
  | [], _, _ => rfl
  | y :: K, i, h => by
    unfold lays
    rw [List.foldl_cons, if_neg (h y (List.mem_cons_self ..))]
    exact lays_other b K i (fun z hz => h z (List.mem_cons_of_mem _ hz))
theorem Safe.crashed (h : Safe D s) (keep : List Bool) (lack : Int) : Safe (D.crashed keep lack) s := by
  obtain ⟨f, h1, h2, h3, h4⟩ := h
  have hl : lays f.image f.blk (keptTo keep lack.toNat D.waits (min keep.length D.waits.length)) = f.image :=
    lays_other _ _ _ (fun y hy => by obtain ⟨x, hx, e, _⟩ := keptTo_mem hy; rw [e]; exact h4 x hx)
  refine ⟨{ f with now := f.image }, ?_, h3, h3, fun x hx => by cases hx⟩
  unfold DiskS.find at h1 ⊢
  unfold DiskS.crashed DiskS.imaged
  simp only [List.map_map, List.find?_map, Function.comp_def]
  rw [h1]
  simp [hl]
theorem Safe.does (h : Safe D s) (hF : dk.Form D) (o : OpS) (b : Nat) (ha : o.a ≠ nK) (hb : o.b ≠ nK) (hl : ∀ n ∈ o.l, n ≠ nK) : Safe (D.does o b).2 s := by
  unfold DiskS.does
  split; exact h.create _ _
  split; exact h.write hF ha _ _
  split; exact h.sync hl
  split; exact h.cut ha _
  split; exact h.rename ha hb
  split; exact h.delete hl
  split; exact h
  split; exact h.crashed _ _
  exact h

def isK (n : ByteArray) : Bool := n.toList == [107, 101, 101, 112, 32, 116, 104, 105, 115, 32, 115, 97, 102, 101]
theorem isK_false {n : ByteArray} (h : isK n = false) : n ≠ nK := by
  rintro rfl
  unfold isK at h
  rw [Lib.toList_data] at h
  exact absurd h (by decide)
def named (o : OpS) : Bool := isK o.a || isK o.b || o.l.any isK
theorem Safe.step (h : Safe D s) (hF : dk.Form D) (o : OpS) (b : Nat) (hn : named o = false) : Safe (D.does o b).2 s := by
  unfold named at hn
  simp only [Bool.or_eq_false_iff, List.any_eq_false] at hn
  exact h.does hF o b (isK_false hn.1.1) (isK_false hn.1.2) (fun n hn' => isK_false (by simpa using hn.2 n hn'))

/-- The disk ahead of the calls. -/
def at1 (b : Nat) : DiskS := ⟨-1, false, 100000, [⟨nK, b, ⟨#[]⟩, ⟨#[]⟩⟩], []⟩
def at2 (b : Nat) (s : ByteArray) : DiskS := if s.size = 0 then at1 b else ⟨-1, false, 100000, [⟨nK, b, ⟨#[]⟩, laid ⟨#[]⟩ 0 s⟩], [⟨b, 0, s⟩]⟩
theorem st1 (b : Nat) : (new 100000).create nK b = (0, at1 b) := by rfl
theorem st2 (b : Nat) (s : ByteArray) (hs : s.size ≤ 300) : (at1 b).write nK 0 s = (0, at2 b s) := by
  have hf : (at1 b).find nK = some ⟨nK, b, ⟨#[]⟩, ⟨#[]⟩⟩ := by rfl
  unfold DiskS.write
  rw [hf, if_neg (show ¬ (at1 b).down = true from fun h => by cases h)]
  simp only
  rw [if_neg (by show ¬ ((0 : Int) < 0 ∨ ((0 : Nat) : Int) < 0); omega), if_neg (by show ¬ (0 + (s.size : Int) - ((0 : Nat) : Int) > 100000 - ((0 : Nat) : Int) ∧ _); omega)]
  unfold DiskS.doing
  rw [if_neg (show ¬ (at1 b).burns = true from fun h => absurd h (show ¬ (false = true) by decide))]
  have hb : (at1 b).burn = at1 b := by rfl
  rw [hb]
  unfold at2
  split
  · rfl
  · rfl
theorem laid_empty (s : ByteArray) : laid ⟨#[]⟩ 0 s = s := by
  unfold laid laidL pad
  apply ba_ext
  show (if s.data.toList = [] then ([] : List UInt8) else _) = s.data.toList
  split
  · rename_i h; exact h.symm
  · simp
theorem st3 (b : Nat) (s : ByteArray) : (at2 b s).sync [nK] = (0, ⟨-1, false, 100000, [⟨nK, b, s, s⟩], []⟩) := by
  unfold at2
  split
  · rename_i h
    have : s = ⟨#[]⟩ := ba_ext (List.eq_nil_of_length_eq_zero (by simpa using h))
    subst this
    rfl
  · show (0, (⟨-1, false, 100000, [⟨nK, b, laid ⟨#[]⟩ 0 s, laid ⟨#[]⟩ 0 s⟩], [(⟨b, 0, s⟩ : WaitS)].filter fun x => !decide (x.blk = b)⟩ : DiskS)) = _
    rw [laid_empty]
    simp
theorem st4 (b : Nat) (s : ByteArray) : Safe ⟨-1, false, 100000, [⟨nK, b, s, s⟩], []⟩ s := ⟨⟨nK, b, s, s⟩, rfl, rfl, rfl, fun x hx => by cases hx⟩

set_option maxRecDepth 100000 in
set_option maxHeartbeats 8000000 in
theorem walk (W : World) (s : ByteArray) (zs : s.size ≤ maxLen) (v : Value) (l : List OpS) (r : RowsAt OpR 8 W v l) :
    Calls Try.prog 3 #[.string s, v] W fun e W' => e = .returned (.bool true) ∧ Calm W W' := by
  have hml : l.length ≤ maxLen := by obtain ⟨a, cap, _, h2, h3, _⟩ := r; omega
  obtain ⟨a, cap, hv, hops⟩ := RowsAt_op r
  subst hv
  have Hops := box hops
  have Hr := box r
  unfold maxLen at zs
  have hgr := box (Great_any (.slice a l.length cap) l)
  clear r hops
  go_enter Try.func3, Try.ntmps3
  go_wp2_with fail
  refine (awake_any _).mono ?_
  rintro e w1 ⟨rfl, hc1⟩
  have Hc1 := box hc1
  clear hc1
  go_wp2_with fail
  refine (hgr.out w1 (Hr.out.calm OpR.lasts Hc1.out) hml).mono ?_
  rintro e w2 ⟨rfl, hc2⟩
  have Hc2 := box (Hc1.out.trans hc2)
  clear hc2
  obtain ⟨g, hg⟩ : ∃ g, great l = g := ⟨_, rfl⟩
  rw [hg]
  have Hg := box hg
  clear hg
  cases g
  · by_cases h300 : 300 < s.size
    · go_wp2_with fail
      go_ret
      exact ⟨rfl, Hc2.out⟩
    · have hs3 : s.size ≤ 300 := by omega
      have hl1 : l.length ≤ 100 := by have := Hg.out; unfold great at this; rw [Bool.or_eq_false_iff] at this; simpa using this.1
      have O2 := box ((Owns.refl W).calm' Hc2.out)
      go_wp2_with fail
      refine (New_ok _ 100000).mono ?_
      rintro e w3 ⟨p, F, rfl, h3, hc3, hF3⟩
      have H3 := box h3
      have O3 := box (O2.out.new hc3 hF3)
      clear h3 hc3 hF3
      go_wp2_with fail
      refine (Create_ok nK _ H3.out).mono ?_
      rintro e w4 ⟨b, hb, h4⟩
      obtain ⟨rfl, F4, h4, hs4⟩ := h4.at (st1 b)
      have H4 := box h4
      have O4 := box (O3.out.step hs4)
      clear h4 hs4 hb
      go_wp2_with fail
      refine (Write_ok nK s 0 _ H4.out (by decide) (by omega)).mono ?_
      intro e w5 h5
      obtain ⟨rfl, F5, h5, hs5⟩ := h5.at (st2 b s hs3)
      have H5 := box h5
      have O5 := box (O4.out.step hs5)
      clear h5 hs5
      go_wp2_with fail
      refine (Sync_ok (.slice (some ⟨w5.heap.size, 0, none⟩) 1 1) [nK] _ (H5.out.calm ((Calm.refl w5).alloc _)) (by decide) (StrsAt.one (by go_cell)) H5.out.apart_new (by decide)).mono ?_
      intro e w6 h6
      obtain ⟨rfl, F6, h6, hs6⟩ := h6.at (st3 b s)
      have H6 := box h6
      have O6 := box ((O5.out.calm' ((Calm.refl w5).alloc (.cells #[.string nK] 9))).step hs6)
      have S6 := box (st4 b s)
      clear h6 hs6
      go_wp2_with fail
      go_loopw [42] (fun i wr => ∃ k : Nat, k ≤ l.length ∧ i = .int .i64 k ∧ ∃ D F, DiskOk wr p D F (k + 1) ∧ Safe D s ∧ Owns W wr F) (fun i _ => l.length - (intOf i).toNat)
      case atStart => exact ⟨0, Nat.zero_le _, rfl, _, _, H6.out, S6.out, O6.out⟩
      case round =>
        clear H3 O3 H4 O4 H5 O5 H6 O6 S6
        obtain ⟨k, hk, rfl, D, F, hD, hS, hO⟩ := hrel
        have HD := box hD
        have HS := box hS
        have HO := box hO
        clear hD hS hO
        obtain ⟨wo, hwo⟩ : ∃ wo : World, wo = wr := ⟨_, rfl⟩
        subst hwo
        by_cases hlt : k < l.length
        · obtain ⟨b, off, lv, kv, rfl, hb, ho, c0, c1, c2, c3, c4, c5, c6, c7⟩ := Hops.out k hlt
          have d0 := (HO.out.calm.cell (p := ⟨b, off + k * 8, none⟩) hb).trans c0
          have d1 := (HO.out.calm.cell (p := ⟨b, off + k * 8 + 1, none⟩) hb).trans c1
          have d2 := (HO.out.calm.cell (p := ⟨b, off + k * 8 + 2, none⟩) hb).trans c2
          have d3 := (HO.out.calm.cell (p := ⟨b, off + k * 8 + 3, none⟩) hb).trans c3
          have d4 := (HO.out.calm.cell (p := ⟨b, off + k * 8 + 4, none⟩) hb).trans c4
          have d5 := (HO.out.calm.cell (p := ⟨b, off + k * 8 + 5, none⟩) hb).trans c5
          have d6 := (HO.out.calm.cell (p := ⟨b, off + k * 8 + 6, none⟩) hb).trans c6
          have d7 := (HO.out.calm.cell (p := ⟨b, off + k * 8 + 7, none⟩) hb).trans c7
          have hgo := box (great_one Hg.out k hlt)
          obtain ⟨o, ho'⟩ : ∃ o, l[k] = o := ⟨_, rfl⟩
          rw [ho'] at d0 d1 d2 d3 d4 d7 ho hgo
          obtain ⟨ok, on, oa, ob, os, ol, okeep, olack⟩ := o
          have Ho := box ho
          have hol : ol.length ≤ 10 := hgo.out.2.1
          obtain ⟨la, lcap, rfl, hlc⟩ := ho.l.strs.1.uni
          obtain ⟨ka, kcap, rfl, _, _⟩ := ho.keep
          have Hlc := box hlc
          have hbr : b < wo.heap.size := Nat.lt_of_lt_of_le hb HO.out.calm.size
          clear c0 c1 c2 c3 c4 c5 c6 c7 ho hlc ho'
          simp only at d0 d1 d2 d3 d4 d7
          go_wp2_with fail
          all_goals
            go_loop [8, 57] (fun n8 i => ∃ j : Nat, j ≤ ol.length ∧ i = .int .i64 j ∧ n8 = .bool (isK oa || isK ob || (ol.take j).any isK)) (fun _ i => ol.length - (intOf i).toNat)
            case atStart => exact ⟨0, Nat.zero_le _, rfl, by simp [isK, *]⟩
            case round =>
              obtain ⟨j, hj, rfl, rfl⟩ := hrel
              by_cases hlt2 : j < ol.length
              · obtain ⟨lb, loff, rfl, hlb, hlcell⟩ := Hlc.out j hlt2
                have hl2 := (HO.out.calm.cell (p := ⟨lb, loff + j, none⟩) hlb).trans hlcell
                have hlbo := Nat.lt_of_lt_of_le hlb HO.out.calm.size
                have hg2 := box (show (ol.take (j + 1)).any isK = ((ol.take j).any isK || isK (ol.getD j ByteArray.empty)) by rw [List.take_succ_eq_append_getElem hlt2, List.any_append]; simp [List.getD_eq_getElem?_getD, List.getElem?_eq_getElem hlt2])
                obtain ⟨x, hx⟩ : ∃ x, ol.getD j ByteArray.empty = x := ⟨_, rfl⟩
                rw [hx] at hl2 hg2
                have hm := box (show (isK oa || isK ob || (ol.take (j + 1)).any isK) = ((isK oa || isK ob || (ol.take j).any isK) || isK x) by rw [hg2.out, Bool.or_assoc, Bool.or_assoc, Bool.or_assoc])
                obtain ⟨nb, hnb⟩ : ∃ nb, (isK oa || isK ob || (ol.take j).any isK) = nb := ⟨_, rfl⟩
                rw [hnb] at hm
                rw [hnb]
                clear hx hnb hlcell hg2 d0 d1 d2 d3 d4 d5 d6 d7
                cases nb
                · go_wp2
                  all_goals
                    go_round
                    case rel => exact ⟨j + 1, by omega, by go_num, by rw [hm.out]; simp [isK]⟩
                    case measure => simp [intOf]; omega
                · go_wp2
                  go_round
                  case rel => exact ⟨j + 1, by omega, by go_num, by rw [hm.out]; rfl⟩
                  case measure => simp [intOf]; omega
              · obtain rfl : j = ol.length := by omega
                have hnm := box (show named ⟨ok, on, oa, ob, os, ol, okeep, olack⟩ = (isK oa || isK ob || (ol.take ol.length).any isK) by rw [List.take_length]; rfl)
                obtain ⟨nb, hnb⟩ : ∃ nb, (isK oa || isK ob || (ol.take ol.length).any isK) = nb := ⟨_, rfl⟩
                rw [hnb] at hnm
                rw [hnb]
                clear hnb
                cases nb
                · go_wp2_with fail
                  refine (Do_ok ⟨ok, on, oa, ob, os, ol, okeep, olack⟩ (.slice la ol.length lcap) (.slice ka okeep.length kcap) _ (HD.out.calm ((Calm.refl wo).alloc _)) (by omega) (Ho.out.calm (HO.out.calm.trans ((Calm.refl wo).alloc _))) (HO.out.apart Ho.out.l) (HO.out.apart Ho.out.keep) (by have := hgo.out.1; simp only; omega) (by simp only; omega) (by have := hgo.out.2.2.1; simp only; omega)).mono ?_
                  rintro e w7 ⟨b7, hb7, rfl, F7, h7, hs7⟩
                  have S7 := HS.out.step HD.out.form ⟨ok, on, oa, ob, os, ol, okeep, olack⟩ b7 hnm.out
                  have O7 := box ((HO.out.calm' ((Calm.refl wo).alloc _)).step hs7)
                  obtain ⟨D7, hD7⟩ : ∃ E, (D.does ⟨ok, on, oa, ob, os, ol, okeep, olack⟩ b7).2 = E := ⟨_, rfl⟩
                  obtain ⟨r7, hr7⟩ : ∃ E, (D.does ⟨ok, on, oa, ob, os, ol, okeep, olack⟩ b7).1 = E := ⟨_, rfl⟩
                  rw [hD7] at h7 S7
                  rw [hr7]
                  have H7 := box h7
                  have HS7 := box S7
                  clear h7 hs7 S7 hD7 hr7 hb7 d0 d1 d2 d3 d4 d5 d6 d7
                  obtain ⟨dn, hdn⟩ : ∃ x, D7.down = x := ⟨_, rfl⟩
                  have hall := box (HS7.out.all)
                  rw [hdn] at hall
                  have hdown := box (fun W => Down_any (p := p) (D := D7) (F := F7) W)
                  rw [hdn] at hdown
                  clear hdn
                  go_wp2_with fail
                  refine (All_any _ nK H7.out.lies).mono ?_
                  rintro e w8 ⟨rfl, hc8⟩
                  have H8 := box (H7.out.calm hc8)
                  have O8 := box (O7.out.calm' hc8)
                  clear hc8
                  cases dn
                  · rw [hall.out]
                    go_wp2_with fail
                    refine (hdown.out _ H8.out.lies).mono ?_
                    rintro e w9 ⟨rfl, rfl⟩
                    go_wp2_with fail
                    refine (hdown.out _ H8.out.lies).mono ?_
                    rintro e w9 ⟨rfl, rfl⟩
                    go_wp2_with fail
                    go_roundw
                    case rel => exact ⟨k + 1, by omega, by go_num, D7, F7, H8.out, HS7.out, O8.out⟩
                    case measure => simp [intOf]; omega
                  · rw [hall.out]
                    go_wp2_with fail
                    refine (hdown.out _ H8.out.lies).mono ?_
                    rintro e w9 ⟨rfl, rfl⟩
                    go_wp2_with fail
                    refine (hdown.out _ H8.out.lies).mono ?_
                    rintro e w9 ⟨rfl, rfl⟩
                    go_wp2_with fail
                    go_roundw
                    case rel => exact ⟨k + 1, by omega, by go_num, D7, F7, H8.out, HS7.out, O8.out⟩
                    case measure => simp [intOf]; omega
                · go_wp2_with fail
                  go_roundw
                  case rel => exact ⟨k + 1, by omega, by go_num, D, F, (HD.out.calm ((Calm.refl wo).alloc _)).mono (by omega), HS.out, HO.out.calm' ((Calm.refl wo).alloc _)⟩
                  case measure => simp [intOf]; omega
        · obtain rfl : k = l.length := by omega
          have hall := box (show (D.crashed [] 0).all nK = (s, 0) from (HS.out.crashed [] 0).all)
          go_wp2_with fail
          refine (Crash_ok none 0 [] 0 _ HD.out (by omega) .nil .nil (Nat.le_refl _) (by decide)).mono ?_
          rintro e w7 ⟨rfl, F7, h7, hs7⟩
          have H7 := box h7
          have O7 := box (HO.out.step hs7)
          clear h7 hs7
          go_wp2_with fail
          refine (All_any _ nK H7.out.lies).mono ?_
          rw [hall.out]
          rintro e w8 ⟨rfl, hc8⟩
          have O8 := box (O7.out.calm' hc8)
          clear hc8
          go_wp2_with fail
          go_ret
          exact ⟨ret_bool (by simp), O8.out.calm⟩
  · go_wp2_with fail
    go_ret
    exact ⟨rfl, Hc2.out⟩

theorem own : ownKnob Try.prog.godebug = none := by kernel_rfl
theorem laidOut : laidOutB Try.prog = true := by kernel_rfl
set_option maxRecDepth 100000 in
set_option linter.unusedVariables false in
theorem lifted (os : Os) (started : os.Started) (H : Type) (enc : TypeId × Value → H) :
    ReturnsInHanded {} Try.checked os 3 .any (Rows.diskLastsSpec.pre6 enc Try.prog Try.f3 Rows.diskLastsRow.domain false) (Rows.diskLastsSpec.post enc Try.prog Try.f3 false true false false) := by
  refine returnsInHanded_of_change_sized (C := Try.checked) own started (by kernel_rfl) Try.func3
    (ChangeSpec.witness6 (enc := enc) (C := Try.checked) false ⟨#[], #[.string ⟨#[]⟩, .slice none 0 0], []⟩ 8 (by kernel_rfl) (by kernel_rfl) (by kernel_rfl) (by kernel_rfl)) ?_
  intro W base args ds gs before hval0 hW hcnd hsz0 _
  have hsz : (DataW.weightsEach Try.prog (Try.f3.params.toList ++ []) (ds ++ gs)).all (· ≤ reachBytes) = true := hsz0
  clear hsz0
  have hval : ∀ (j : Nat) t v, Try.f3.params[j]? = some t → args[j]? = some v → Value.okWide Try.prog W .any base t v := hval0
  have hW' := hW
  obtain ⟨p, q, hA0, hV, rfl, hfz, hnd⟩ := hW
  have hA : DataW.TrodAll enc Try.prog W 0 (fun _ => true) true Try.f3.params.toList args.toList ds p := hA0
  rw [Try.params3] at hA hval hsz
  obtain ⟨v0, vs0, d0, ds0, p0, q0, hargs, rfl, rfl, h0, r0'⟩ := trodAll_cons hA
  obtain ⟨v1, vs1, d1, ds1, p1, q1, rfl, rfl, rfl, h1, r1'⟩ := trodAll_cons r0'
  obtain ⟨rfl, rfl, rfl⟩ := trodAll_nil r1'
  obtain rfl : args = #[v0, v1] := by cases args; simp_all
  obtain ⟨rfl, rfl⟩ := trodVars_none hV
  clear hA0 hval0
  have wt0 := fun n hn => (by simpa using List.all_eq_true.1 hsz n (DataW.weights_mem_each (j := 0) rfl rfl n hn) : n ≤ reachBytes)
  have wt1 := fun n hn => (by simpa using List.all_eq_true.1 hsz n (DataW.weights_mem_each (j := 1) rfl rfl n hn) : n ≤ reachBytes)
  have hlt : ∀ x ∈ p0 ++ (p1 ++ []), x.block < W.heap.size := fun x hx => by have := hW'.lt x (by simpa using hx); simpa using this
  obtain ⟨s0, e0, _, _, z0⟩ := Go.ChangeMaps.open_string Try.underlying9 (hval 0 9 v0 rfl rfl) h0
  subst e0
  obtain ⟨l1, r1⟩ := slice_arg Try.underlying22 (hval 1 22 v1 rfl rfl) ((opens_slice (c := 8) Try.underlying22 (by kernel_rfl) (by decide) (opens_op)).arg h1)
  refine (walk W s0 z0 v1 l1 r1).mono fun e W' ⟨he, hg⟩ => ?_
  subst he
  refine ⟨_, rfl, _, _, _, [] ++ [], p0 ++ (p1 ++ []), [], hW', ?_, ?_, ?_, hg.frame _, fun h => by cases h⟩
  · exact trodAll_mk1 (shut_bool Try.underlying4 true)
  · exact trodAll_cons_mk (Below.trod laidOut (by kernel_rfl) (of_decide_eq_true (by kernel_rfl)) h0 hg (fun x hx => hlt x (by simp [hx]))) (trodAll_cons_mk (Below.trod laidOut (by kernel_rfl) (of_decide_eq_true (by kernel_rfl)) h1 hg (fun x hx => hlt x (by simp [hx]))) (trodAll_mk0))
  · exact rfl

theorem over : Rows.diskLastsRow.holds Try.pinned (OpenSpec.ofChange Rows.diskLastsSpec) :=
  OpenClaim.holds_of_wide 3 Try.f3 rfl rfl rfl rfl rfl rfl rfl ⟨rfl, rfl, rfl, rfl, rfl⟩ rfl rfl rfl rfl rfl (by kernel_rfl) Try.func3 (by kernel_rfl)
    (of_decide_eq_true (by kernel_rfl)) (by unfold Func.isWrapper; first | (rw [if_pos (by decide +kernel)]; kernel_rfl) | (rw [if_neg (by decide +kernel)]; exact ⟨rfl, rfl⟩))
    (fun os started H enc _ => lifted os started H enc)

theorem proved : Rows.DiskLastsSaid := over
#print axioms proved
end Go.Proofs.Ytbmhjojlbmbpkaa.dlasts
