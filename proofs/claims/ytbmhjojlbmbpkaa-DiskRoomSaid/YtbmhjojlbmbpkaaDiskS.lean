/- Layer 4's statements: the example; what is too great to be played. -/
import Derived.Test.YtbmhjojlbmbpkaaDiskR
namespace Go.Proofs.Ytbmhjojlbmbpkaa.dk
open Go.ChangeShapes Go.WideShapes Go.ChangeAt Go.RowKit

abbrev nF : ByteArray := ⟨#[102]⟩
abbrev nAB : ByteArray := ⟨#[97, 98]⟩
abbrev nCD : ByteArray := ⟨#[99, 100]⟩
def aw1 (b : Nat) : DiskS := ⟨-1, false, 100, [⟨nF, b, ⟨#[]⟩, ⟨#[]⟩⟩], []⟩
def aw2 (b : Nat) : DiskS := ⟨-1, false, 100, [⟨nF, b, ⟨#[]⟩, nAB⟩], [⟨b, 0, nAB⟩]⟩
def aw3 (b : Nat) : DiskS := ⟨-1, false, 100, [⟨nF, b, nAB, nAB⟩], []⟩
def aw4 (b : Nat) : DiskS := ⟨-1, false, 100, [⟨nF, b, nAB, ⟨#[97, 98, 99, 100]⟩⟩], [⟨b, 2, nCD⟩]⟩
theorem ae1 (b : Nat) : (new 100).create nF b = (0, aw1 b) := by rfl
theorem ae2 (b : Nat) : (aw1 b).write nF 0 nAB = (0, aw2 b) := by rfl
theorem ae3 (b : Nat) : (aw2 b).sync [nF] = (0, aw3 b) := by
  show (0, (⟨-1, false, 100, [⟨nF, b, nAB, nAB⟩], [(⟨b, 0, nAB⟩ : WaitS)].filter fun x => !decide (x.blk = b)⟩ : DiskS)) = _
  simp [aw3]
theorem ae4 (b : Nat) : (aw3 b).write nF 2 nCD = (0, aw4 b) := by rfl
theorem ae5 (b : Nat) : (aw4 b).crashed [] 0 = aw3 b := by rfl
theorem ae6 (b : Nat) : (aw3 b).all nF = (nAB, 0) := by rfl

theorem DiskOk.apart_new {w : World} {p n : Nat} {D : DiskS} {F : Nat → Prop} (h : DiskOk w p D F n) {m c : Nat} : Apart (.slice (some ⟨w.heap.size, 0, none⟩) m c) F := fun a _ _ e _ hf => by
  cases e
  have := h.foot_lt _ hf
  simp at this
theorem BoolsAt.nil {w : World} {a : Option Addr} : BoolsAt w a [] := fun k hk => absurd hk (Nat.not_lt_zero _)
theorem Apart.nil {F : Nat → Prop} {n c : Nat} : Apart (.slice none n c) F := fun _ _ _ h => by cases h
set_option maxRecDepth 100000 in
set_option maxHeartbeats 4000000 in
theorem awake_any (w : World) : Calls Try.prog 10 #[] w fun e w' => e = .returned (.bool true) ∧ Calm w w' := by
  go_enter Try.func10, Try.ntmps10
  go_wp2_with fail
  refine (New_ok _ 100).mono ?_
  rintro e w1 ⟨p, F, rfl, h1, hc1, hF1⟩
  have H1 := box h1
  have Hc1 := box hc1
  have HF1 := box hF1
  clear h1 hc1 hF1
  go_wp2_with fail
  refine (Create_ok nF _ H1.out).mono ?_
  rintro e w2 ⟨b, hb, h2⟩
  obtain ⟨rfl, F2, h2, hs2⟩ := h2.at (ae1 b)
  have H2 := box h2
  have Hs2 := box hs2
  clear h2 hs2 hb
  go_wp2_with fail
  refine (Write_ok nF nAB 0 _ H2.out (by decide) (by decide)).mono ?_
  intro e w3 h3
  obtain ⟨rfl, F3, h3, hs3⟩ := h3.at (ae2 b)
  have H3 := box h3
  have Hs3 := box (Hs2.out.trans hs3)
  clear h3 hs3
  go_wp2_with fail
  refine (Sync_ok (.slice (some ⟨w3.heap.size, 0, none⟩) 1 1) [nF] _ (H3.out.calm ((Calm.refl w3).alloc _)) (by decide) (StrsAt.one (by go_cell)) H3.out.apart_new (by decide)).mono ?_
  intro e w4 h4
  obtain ⟨rfl, F4, h4, hs4⟩ := h4.at (ae3 b)
  have H4 := box h4
  have Hs4 := box ((Hs3.out.calm ((Calm.refl w3).alloc (.cells #[.string nF] 9))).trans hs4)
  clear h4 hs4
  go_wp2_with fail
  refine (Write_ok nF nCD 2 _ H4.out (by decide) (by decide)).mono ?_
  intro e w5 h5
  obtain ⟨rfl, F5, h5, hs5⟩ := h5.at (ae4 b)
  have H5 := box h5
  have Hs5 := box (Hs4.out.trans hs5)
  clear h5 hs5
  go_wp2_with fail
  refine (Crash_ok none 0 [] 0 _ H5.out (by decide) .nil .nil (Nat.le_refl _) (by decide)).mono ?_
  rintro e w6 ⟨rfl, F6, h6, hs6⟩
  rw [ae5] at h6
  have H6 := box h6
  have Hs6 := box (Hs5.out.trans hs6)
  clear h6 hs6
  go_wp2_with fail
  refine (All_any _ nF H6.out.lies).mono ?_
  rw [ae6]
  rintro e w7 ⟨rfl, hc7⟩
  have Hc7 := box hc7
  clear hc7
  go_wp2_with fail
  go_ret
  exact ⟨rfl, Below.trans Hc1.out ((Hs6.out.calm Hc7.out).keeps.below Hc1.out.size HF1.out)⟩

theorem RowsAt_op {w : World} {v : Value} {l : List OpS} (h : RowsAt OpR 8 w v l) : ∃ a cap, v = .slice a l.length cap ∧ ∀ k (hk : k < l.length), ∃ b off lv kv, a = some ⟨b, off, none⟩ ∧ b < w.heap.size ∧ OpIs w lv kv l[k] ∧
    w.cell? ⟨b, off + k * 8, none⟩ = some (.int .i64 l[k].k) ∧ w.cell? ⟨b, off + k * 8 + 1, none⟩ = some (.int .i64 l[k].n) ∧ w.cell? ⟨b, off + k * 8 + 2, none⟩ = some (.string l[k].a) ∧ w.cell? ⟨b, off + k * 8 + 3, none⟩ = some (.string l[k].b) ∧
    w.cell? ⟨b, off + k * 8 + 4, none⟩ = some (.string l[k].s) ∧ w.cell? ⟨b, off + k * 8 + 5, none⟩ = some lv ∧ w.cell? ⟨b, off + k * 8 + 6, none⟩ = some kv ∧ w.cell? ⟨b, off + k * 8 + 7, none⟩ = some (.int .i64 l[k].lack) := by
  obtain ⟨a, cap, rfl, _, _, h4⟩ := h
  refine ⟨a, cap, rfl, fun k hk => ?_⟩
  obtain ⟨b, off, cs, e, hb, _, hcell, lv, kv, rfl, ho⟩ := h4 k hk
  exact ⟨b, off, lv, kv, e, hb, ho, hcell 0 (by omega), hcell 1 (by omega), hcell 2 (by omega), hcell 3 (by omega), hcell 4 (by omega), hcell 5 (by omega), hcell 6 (by omega), hcell 7 (by omega)⟩

def greatA (o : OpS) : Bool := decide (20 < o.a.size) || decide (20 < o.b.size) || decide (300 < o.s.size) || decide (10 < o.l.length) || decide (200 < o.keep.length)
def greatN (n : ByteArray) : Bool := decide (20 < n.size)
def greatO (o : OpS) : Bool := greatA o || o.l.any greatN
theorem greatO_a {o : OpS} (h : greatA o = true) : greatO o = true := by unfold greatO; rw [h]; rfl
theorem greatO_l {o : OpS} (k : Nat) (hk : k < o.l.length) (h : greatN o.l[k] = true) : greatO o = true := by unfold greatO; rw [Bool.or_eq_true]; exact .inr (List.any_eq_true.2 ⟨_, List.getElem_mem _, h⟩)
/-- Is it more than is played? -/
def great (l : List OpS) : Bool := decide (100 < l.length) || l.any greatO
theorem great_one {l : List OpS} (h : great l = false) (k : Nat) (hk : k < l.length) : l[k].s.size ≤ 300 ∧ l[k].l.length ≤ 10 ∧ l[k].keep.length ≤ 200 ∧ l[k].a.size ≤ 20 ∧ l[k].b.size ≤ 20 := by
  unfold great at h
  rw [Bool.or_eq_false_iff] at h
  have h2 := List.any_eq_false.1 h.2 _ (List.getElem_mem hk)
  simp only [greatO, greatA, Bool.or_eq_true, decide_eq_true_eq, not_or] at h2
  omega
theorem great_snoc (l : List OpS) (k : Nat) (hk : k < l.length) : (l.take (k + 1)).any greatO = ((l.take k).any greatO || greatO l[k]) := by
  rw [List.take_succ_eq_append_getElem hk, List.any_append]; simp
theorem great_yes (l : List OpS) (k : Nat) (hk : k < l.length) (h : greatO l[k] = true) : great l = true := by
  unfold great; rw [Bool.or_eq_true]; exact .inr (List.any_eq_true.2 ⟨l[k], List.getElem_mem _, h⟩)

set_option maxRecDepth 100000 in
set_option maxHeartbeats 4000000 in
theorem Great_any (v : Value) (l : List OpS) (w : World) (h : RowsAt OpR 8 w v l) (hm : l.length ≤ maxLen) :
    Calls Try.prog 11 #[v] w fun e w' => e = .returned (.bool (great l)) ∧ Calm w w' := by
  unfold maxLen at hm
  obtain ⟨a, cap, rfl, hops⟩ := RowsAt_op h
  have Hops := box hops
  clear h hops
  by_cases h100 : 100 < l.length
  · have hg := box (show great l = true by unfold great; rw [decide_eq_true h100]; rfl)
    go_enter Try.func11, Try.ntmps11
    go_wp2_with fail
    go_ret
    exact ⟨ret_bool hg.out.symm, .refl _⟩
  · go_enter Try.func11, Try.ntmps11
    go_wp2_with fail
    go_loopw [12] (fun i wr => ∃ k : Nat, k ≤ l.length ∧ i = .int .i64 k ∧ (l.take k).any greatO = false ∧ Calm w wr) (fun i _ => l.length - (intOf i).toNat)
    case atStart => exact ⟨0, Nat.zero_le _, rfl, rfl, .refl _⟩
    case round =>
      obtain ⟨k, hk, rfl, hno, hc⟩ := hrel
      have Hno := box hno
      have Hc := box hc
      clear hno hc
      by_cases hlt : k < l.length
      · obtain ⟨b, off, lv, kv, rfl, hb, ho, c0, c1, c2, c3, c4, c5, c6, c7⟩ := Hops.out k hlt
        have hsn := box (great_snoc l k hlt)
        have hyes := box (great_yes l k hlt)
        have d0 := (Hc.out.cell (p := ⟨b, off + k * 8, none⟩) hb).trans c0
        have d1 := (Hc.out.cell (p := ⟨b, off + k * 8 + 1, none⟩) hb).trans c1
        have d2 := (Hc.out.cell (p := ⟨b, off + k * 8 + 2, none⟩) hb).trans c2
        have d3 := (Hc.out.cell (p := ⟨b, off + k * 8 + 3, none⟩) hb).trans c3
        have d4 := (Hc.out.cell (p := ⟨b, off + k * 8 + 4, none⟩) hb).trans c4
        have d5 := (Hc.out.cell (p := ⟨b, off + k * 8 + 5, none⟩) hb).trans c5
        have d6 := (Hc.out.cell (p := ⟨b, off + k * 8 + 6, none⟩) hb).trans c6
        have d7 := (Hc.out.cell (p := ⟨b, off + k * 8 + 7, none⟩) hb).trans c7
        obtain ⟨o, ho'⟩ : ∃ o, l[k] = o := ⟨_, rfl⟩
        rw [ho'] at d0 d1 d2 d3 d4 d7 ho hsn hyes
        obtain ⟨ok, on, oa, ob, os, ol, okeep, olack⟩ := o
        obtain ⟨la, lcap, rfl, hlc⟩ := (ho.l.calm StrR.lasts Hc.out).strs.1.uni
        obtain ⟨ka, kcap, rfl, _, _⟩ := ho.keep
        have Hlc := box hlc
        have hbr : b < wr.heap.size := Nat.lt_of_lt_of_le hb Hc.out.size
        clear c0 c1 c2 c3 c4 c5 c6 c7 ho hlc ho'
        simp only at d0 d1 d2 d3 d4 d7
        go_wp2_with fail
        all_goals first
          | (go_ret; exact ⟨ret_bool (hyes.out (greatO_a (by simp only [greatA, Bool.or_eq_true, decide_eq_true_eq]; omega))).symm, Hc.out.alloc _⟩)
          | skip
        have ha : greatA ⟨ok, on, oa, ob, os, ol, okeep, olack⟩ = false := by
          rw [← Bool.not_eq_true]; simp only [greatA, Bool.or_eq_true, decide_eq_true_eq]; omega
        have Ha := box ha
        have hol : ol.length ≤ 10 := by omega
        clear ha
        obtain ⟨wo, hwo⟩ : ∃ wo : World, wo = wr := ⟨_, rfl⟩
        subst hwo
        go_loopw [48] (fun i wi => ∃ j : Nat, j ≤ ol.length ∧ i = .int .i64 j ∧ (ol.take j).any greatN = false ∧ Calm (wo.alloc (.cells #[.int .i64 ok, .int .i64 on, .string oa, .string ob, .string os, .slice la ol.length lcap, .slice ka okeep.length kcap, .int .i64 olack] 36)) wi) (fun i _ => ol.length - (intOf i).toNat)
        case atStart => exact ⟨0, Nat.zero_le _, rfl, rfl, .refl _⟩
        case round =>
          obtain ⟨j, hj, rfl, hno2, hc2⟩ := hrel
          have Hno2 := box hno2
          have Hc2 := box (((Calm.refl wo).alloc _).trans hc2)
          have Hc3 := box hc2
          clear hno2 hc2
          by_cases hlt2 : j < ol.length
          · obtain ⟨lb, loff, rfl, hlb, hlcell⟩ := Hlc.out j hlt2
            have hl2 := (Hc2.out.cell (p := ⟨lb, loff + j, none⟩) hlb).trans hlcell
            have hg1 := box (fun h => greatO_l (o := ⟨ok, on, oa, ob, os, ol, okeep, olack⟩) j hlt2 h)
            have hg2 := box (show (ol.take (j + 1)).any greatN = ((ol.take j).any greatN || greatN ol[j]) by rw [List.take_succ_eq_append_getElem hlt2, List.any_append]; simp)
            have hgd : ol.getD j ByteArray.empty = ol[j] := by rw [List.getD_eq_getElem?_getD, List.getElem?_eq_getElem hlt2]; rfl
            rw [hgd] at hl2
            obtain ⟨s, hs⟩ : ∃ s, ol[j] = s := ⟨_, rfl⟩
            simp only at hg1
            rw [hs] at hl2 hg1 hg2
            clear hs hgd hlcell d0 d1 d2 d3 d4 d5 d6 d7
            by_cases h20 : 20 < s.size
            · go_wp2_with fail
              go_ret
              exact ⟨ret_bool (hyes.out (hg1.out (by unfold greatN; exact decide_eq_true h20))).symm, Hc.out.trans Hc2.out⟩
            · have hn2 := box (show (ol.take (j + 1)).any greatN = false by rw [hg2.out, Hno2.out]; unfold greatN; rw [decide_eq_false h20]; rfl)
              go_wp2_with fail
              go_roundw
              case rel => exact ⟨j + 1, by omega, by go_num, hn2.out, Hc3.out⟩
              case measure => simp [intOf]; omega
          · obtain rfl : j = ol.length := by omega
            have hn3 := box (show (l.take (k + 1)).any greatO = false by
              have := Hno2.out
              rw [List.take_length] at this
              rw [hsn.out, Hno.out]; unfold greatO; rw [Ha.out, this]; rfl)
            clear d0 d1 d2 d3 d4 d5 d6 d7
            go_wp2_with fail
            go_roundw
            case rel => exact ⟨k + 1, by omega, by go_num, hn3.out, Hc.out.trans Hc2.out⟩
            case measure => simp [intOf]; omega
      · obtain rfl : k = l.length := by omega
        have hg := box (show great l = false by
          have := Hno.out
          rw [List.take_length] at this
          unfold great; rw [this, decide_eq_false h100]; rfl)
        go_wp2_with fail
        go_ret
        exact ⟨ret_bool hg.out.symm, Hc.out⟩
end Go.Proofs.Ytbmhjojlbmbpkaa.dk
