/- Layer 16: Next, Put, Hand, Len, Waits. -/
import Derived.Test.YtccbfekajbnehaaRows
import Derived.WalkKit
import Derived.ProofKit
import Derived.OpenShut
import Derived.Handy
import Derived.Deep.LoopGhost
import Derived.Lib.Hide
import Derived.Lib.Strings
import Derived.SizedLaws
import Derived.Maps.Own
import Derived.Maps.OwnOps
import Derived.Maps.OwnSet
import Derived.Maps.RangeWalk
import Derived.Deep.QuietTactic
import Derived.BigQuiet
import Derived.Deep.RegionHeld3
import Derived.Lib.ConvBytes
import Derived.Lib.AppendZeros
import Derived.Lib.AppendZerosOnto
import Derived.Lib.LazyBuf
import Derived.Shelf.Abstract
import Derived.LaidEql
import Derived.Lib.SliceRun
import Derived.StillTailTactics
import Derived.Deep.Slices
import Derived.Shelf.SlIter.Nil
import Derived.Ground.GgzProg
import Derived.Shelf.SortM.Plain
import Derived.Shelf.SortM.SortNone
import Derived.Ground.SlgmProg
import Derived.Shelf.SlicesE.DeleteFunc
import Derived.Ground.SlgfProg
import Derived.Test.YtccbfekajbnehaaProg
import Derived.Shelf.Strings.Builder1
import Derived.Shelf.Small.Bits
import Derived.Shelf.Strings.BuilderF
import Derived.Shelf.Strings.BuilderK
import Derived.Shelf.Strconv.Itoa0
import Derived.Shelf.Sort.Plain
import Derived.Shelf.Strings.Prefix
import Derived.Shelf.Strings.BuilderCap
import Derived.Shelf.Slices.In.SortNone
import Derived.Shelf.SlicesE.IndexFunc
import Derived.Laws.MakeOwn
import Derived.Lib.Builder
import Derived.Lib.AppendStr
import Derived.Shelf.SlicesQ.Reverse
import Derived.Ground.SlgnProg
import Derived.OwnWalk
import Derived.Test.YtccbfekajbnehaaPk17
namespace Go.Proofs.Ytccbfekajbnehaa.tl
open Go.ChangeShapes Go.WideShapes Go.ChangeAt Go.RowKit
open Go.Proofs.Ytccbfekajbnehaa.oc Go.Proofs.Ytccbfekajbnehaa.dk Go.Proofs.Ytccbfekajbnehaa.fl Go.Proofs.Ytccbfekajbnehaa.wh Go.Proofs.Ytccbfekajbnehaa.en
section
variable {p q l n : Nat} {D : DiskS} {F : Nat → Prop} {E : List Mk} {H : List Nat} {R : Nat → List Rc} {t : Int} {w : World}
theorem q_free (h : Log w p q l n D F E H t) : ¬ (F q ∨ q = l) := fun hf => hf.elim h.qF (fun e => h.apart e.symm)
/-- The hand was turned. -/
theorem Log.turned {w' : World} {t' : Int} (h : Log w p q l n D F E H t) (hq : WheelAt w' q p t') (hk : Keeps (· = q) w w') : Log w' p q l n D F E H t' :=
  ⟨h.disk.keep hk (fun b hb e => h.qF (e ▸ hb)), h.holds, hq, h.log.keep hk h.apart, h.qF, h.lF, h.apart⟩
/-- All blocks of a timer log. -/
def LF (F : Nat → Prop) (l q : Nat) (b : Nat) : Prop := (F b ∨ b = l) ∨ b = q
theorem Log.hand_step {w' : World} (h : Log w p q l n D F E H t) (hk : Keeps (· = q) w w') : Step (LF F l q) w (LF F l q) w' :=
  ⟨hk.mono (fun b _ e => .inr e), fun b hb => .inl hb⟩
set_option maxRecDepth 100000 in
set_option maxHeartbeats 4000000 in
theorem Next_stays (now : Int) (k : Nat) (h : Log w p q l n D F E H (k : Int)) (hk : k ≤ 9000000000000000000) (hnow : now ≤ k) :
    Calls Try.prog 10 #[ptrTo l, .int .i64 now] w fun e w' => e = .returned (.tuple #[.slice none 0 0, .bool false, .int .i64 0]) ∧ Log w' p q l n D F E H (k : Int) ∧ Step (LF F l q) w (LF F l q) w' := by
  have HL := box h
  have ht := box (Turn_any q p (k : Int) now w h.wheel (by omega))
  rw [turned_stays hnow] at ht
  obtain ⟨c0, c1, f0, f1, hlt⟩ := h.log.cells
  clear h
  go_enter Try.func10, Try.ntmps10
  go_wp2_with fail
  refine ht.out.mono ?_
  rintro e w1 ⟨rfl, hq, hkk⟩
  have Hq := box hq
  have Hk := box hkk
  clear hq hkk ht
  go_wp2_with fail
  go_ret3
  exact ⟨rfl, HL.out.turned Hq.out Hk.out, HL.out.hand_step Hk.out⟩
def NextDone (p q l n : Nat) (D : DiskS) (F : Nat → Prop) (E : List Mk) (R : Nat → List Rc) (s : Nat) (w : World) (e : Ending) (w' : World) : Prop :=
  ∃ v L n' D' F' E' H', e = .returned (.tuple #[v, .bool true, .int .i64 0]) ∧ MarksAt w' v L ∧ L.map Mk.rc = told s (R (s % 16)) ∧ From w.heap.size v ∧ Log w' p q l n' D' F' E' H' (s : Int) ∧ Rows E' H' (upd R (s % 16) (left s (R (s % 16)))) ∧
    E'.length = E.length + (left s (R (s % 16))).length ∧ n' ≤ n + 1 + 2 * (left s (R (s % 16))).length ∧ D'.cap = D.cap ∧ Step (LF F l q) w (LF F' l q) w'
set_option maxRecDepth 100000 in
set_option maxHeartbeats 4000000 in
theorem Next_goes (now : Int) (k : Nat) (h : Log w p q l n D F E H (k : Int)) (hR : Rows E H R) (hnow : (k : Int) < now) (hs : k + 1 ≤ 9000000000000000000) (hn : n + 2 * (left (k + 1) (R ((k + 1) % 16))).length + 1 ≤ 999990) (hfew : E.length + (left (k + 1) (R ((k + 1) % 16))).length ≤ 400000)
    (hcap : ((116 + 20 * (E.length + (left (k + 1) (R ((k + 1) % 16))).length) : Nat) : Int) ≤ D.cap) (hk : ∀ r ∈ R ((k + 1) % 16), r.due % 16 = (k + 1) % 16 ∧ r.puts + 1 < 65536) :
    Calls Try.prog 10 #[ptrTo l, .int .i64 now] w (NextDone p q l n D F E R (k + 1) w) := by
  have HL := box h
  have ht := box (Turn_any q p (k : Int) now w h.wheel (by omega))
  rw [turned_goes hnow] at ht
  obtain ⟨c0, c1, f0, f1, hlt⟩ := h.log.cells
  obtain ⟨s, hse⟩ : ∃ s, k + 1 = s := ⟨_, rfl⟩
  have hsi : (k : Int) + 1 = (s : Int) := by omega
  rw [hse] at hs hn hfew hcap hk ⊢
  rw [hsi] at ht
  have Htake := box (fun w1 (h1 : Log w1 p q l n D F E H (s : Int)) => Take_any h1 hR hs hn hfew hcap hk)
  clear h hR hn hfew hcap hk hse hsi
  go_enter Try.func10, Try.ntmps10
  go_wp2_with fail
  refine ht.out.mono ?_
  rintro e w1 ⟨rfl, hq, hkk⟩
  have H1 := box (HL.out.turned hq hkk)
  have S1 := box (HL.out.hand_step hkk)
  clear hq hkk ht
  go_wp2_with fail
  refine (Htake.out _ H1.out).mono ?_
  rintro e w2 ⟨v, L, n', D', F', E', H', rfl, hm, hL, hfr, hlog, hrows, hlen, hn', hcap', hst⟩
  have HX := box (show MarksAt w2 v L ∧ L.map Mk.rc = told s (R (s % 16)) ∧ From w.heap.size v ∧ Log w2 p q l n' D' F' E' H' (s : Int) ∧ Rows E' H' (upd R (s % 16) (left s (R (s % 16)))) ∧
    E'.length = E.length + (left s (R (s % 16))).length ∧ n' ≤ n + 1 + 2 * (left s (R (s % 16))).length ∧ D'.cap = D.cap ∧ Step (LF F l q) w (LF F' l q) w2 from
    ⟨hm, hL, fun b hb => Nat.le_trans S1.out.keeps.size (hfr b hb), hlog, hrows, hlen, hn', hcap', S1.out.trans (hst.or q)⟩)
  obtain ⟨a, cap, hav, _⟩ := hm
  subst hav
  clear hL hfr hlog hrows hlen hn' hcap' hst
  go_wp2_with fail
  go_ret3
  exact ⟨_, L, n', D', F', E', H', rfl, HX.out⟩
theorem tHand_any (h : Log w p q l n D F E H t) : Calls Try.prog 13 #[ptrTo l] w fun e w' => e = .returned (.int .i64 t) ∧ w = w' := by
  have hh := box (Hand_any q p t w h.wheel)
  obtain ⟨c0, c1, f0, f1, hlt⟩ := h.log.cells
  clear h
  go_enter Try.func13, Try.ntmps13
  go_wp2_with fail
  refine hh.out.mono ?_
  rintro e w1 ⟨rfl, rfl⟩
  go_wp2_with fail
  go_ret
  exact ⟨rfl, rfl⟩
theorem tLen_any (h : Log w p q l n D F E H t) : Calls Try.prog 11 #[ptrTo l] w fun e w' => e = .returned (.int .i64 E.length) ∧ w = w' := by
  obtain ⟨c0, c1, f0, f1, hlt⟩ := h.log.cells
  clear h
  go_enter Try.func11, Try.ntmps11
  go_wp2
  go_ret
  exact ⟨rfl, rfl⟩
/-- What Put tells. -/
def putBad (due place : Int) : Bool := decide (due < 0) || decide (1099511627776 < due) || decide (place < 0) || decide (1099511627776 < place)
set_option maxRecDepth 100000 in
set_option maxHeartbeats 4000000 in
theorem PutArg_any (due place : Int) (x : Nat) (w : World) (h : due < 0 ∨ (0 ≤ due ∧ 1099511627776 < due) ∨ (0 ≤ due ∧ due ≤ 1099511627776 ∧ place < 0) ∨ (0 ≤ due ∧ due ≤ 1099511627776 ∧ 0 ≤ place ∧ 1099511627776 < place)) :
    Calls Try.prog 9 #[ptrTo x, .int .i64 due, .int .i64 place] w fun e w' => e = .returned (.int .i64 1) ∧ w = w' := by
  rcases h with h | ⟨h1, h2⟩ | ⟨h1, h2, h3⟩ | ⟨h1, h2, h3, h4⟩
  all_goals
    go_enter Try.func9, Try.ntmps9
    go_wp2_with fail
    go_ret
    exact ⟨rfl, rfl⟩
set_option maxRecDepth 100000 in
set_option maxHeartbeats 4000000 in
theorem PutLate_any (due place : Int) (h : Log w p q l n D F E H t) (h0 : 0 ≤ due ∧ due ≤ 1099511627776) (h1 : 0 ≤ place ∧ place ≤ 1099511627776) (hl : due ≤ t) :
    Calls Try.prog 9 #[ptrTo l, .int .i64 due, .int .i64 place] w fun e w' => e = .returned (.int .i64 16) ∧ w = w' := by
  have hh := box (tHand_any h)
  obtain ⟨a1, a2⟩ := h0
  obtain ⟨a3, a4⟩ := h1
  clear h
  go_enter Try.func9, Try.ntmps9
  go_wp2_with fail
  refine hh.out.mono ?_
  rintro e w1 ⟨rfl, rfl⟩
  go_wp2_with fail
  go_ret
  exact ⟨rfl, rfl⟩
set_option maxRecDepth 100000 in
set_option maxHeartbeats 4000000 in
theorem Put_any (due place : Nat) (h : Log w p q l n D F E H t) (h0 : due ≤ 1099511627776) (h1 : place ≤ 1099511627776) (hl : t < due) (hn : n ≤ 999990) (hfew : E.length ≤ 400000) (hcap : ((116 + 20 * E.length : Nat) : Int) ≤ D.cap) :
    Calls Try.prog 9 #[ptrTo l, .int .i64 (due : Int), .int .i64 (place : Int)] w (LayDone p q l n D F E H t ⟨due, place, 1⟩ w) := by
  have hh := box (tHand_any h)
  have hlay := box (lay_any t 0 ⟨due, place, 1⟩ w h hn hfew hcap ⟨h0, h1, (by decide : 1 < 65536)⟩ (by decide))
  clear h
  go_enter Try.func9, Try.ntmps9
  go_wp2_with fail
  refine hh.out.mono ?_
  rintro e w1 ⟨rfl, rfl⟩
  go_wp2_with fail
  refine hlay.out.mono ?_
  rintro e w2 ⟨rfl, hx⟩
  have Hx := box hx
  clear hx
  go_wp2_with fail
  go_ret
  exact ⟨rfl, Hx.out⟩
set_option maxRecDepth 100000 in
set_option maxHeartbeats 4000000 in
theorem Waits_any (h : Log w p q l n D F E H t) (hR : Rows E H R) (hfew : E.length ≤ 400000) (hc : ∀ k, k ≤ 16 → cnt R k ≤ 1000000) :
    Calls Try.prog 12 #[ptrTo l] w fun e w' => e = .returned (.tuple #[.int .i64 ((cnt R 16 : Nat) : Int), .int .i64 0]) ∧ Calm w w' := by
  have HL := box h
  have HR := box hR
  have Hc := box hc
  clear h hR hc
  go_enter Try.func12, Try.ntmps12
  go_wp2_with fail
  go_loopw [4, 8] (fun nv iv wr => ∃ k : Nat, k ≤ 16 ∧ iv = .int .i64 k ∧ nv = .int .i64 ((cnt R k : Nat) : Int) ∧ Calm w wr) (fun _ iv _ => 16 - (intOf iv).toNat)
  case atStart => exact ⟨0, Nat.zero_le _, rfl, rfl, .refl _⟩
  case round =>
    obtain ⟨k, hk, rfl, rfl, hcw⟩ := hrel
    have HC := box hcw
    clear hcw
    by_cases hlt : k < 16
    · obtain ⟨L, hch, hL⟩ := HR.out.row k hlt
      have hchain := box (Chain_any t k hlt L _ (HL.out.calm HC.out) hfew hch)
      have hle := Hc.out (k + 1) (by omega)
      have hcs : cnt R (k + 1) = cnt R k + L.length := by rw [← List.length_map (f := Mk.rc), hL]; rfl
      rw [hcs] at hle
      have Hcs := box hcs
      clear hch hL hcs
      obtain ⟨c, hcc⟩ : ∃ c, cnt R k = c := ⟨_, rfl⟩
      rw [hcc] at hle Hcs ⊢
      clear hcc
      go_wp2_with fail
      refine hchain.out.mono ?_
      rintro e w1 ⟨v, rfl, hm, _, hc1⟩
      have HC1 := box (HC.out.trans hc1)
      obtain ⟨a, cap, hav, _⟩ := hm
      subst hav
      clear hc1 hchain
      go_wp2_with fail
      go_roundw
      case rel => exact ⟨k + 1, by omega, by go_num, by rw [Hcs.out]; go_num, HC1.out⟩
      case measure => simp [intOf]; omega
    · obtain rfl : k = 16 := by omega
      go_wp2_with fail
      go_ret2
      exact ⟨rfl, HC.out⟩
end
end Go.Proofs.Ytccbfekajbnehaa.tl

/- Layer 16: New; a timer log as the laws see it. -/
namespace Go.Proofs.Ytccbfekajbnehaa.tl
open Go.ChangeShapes Go.WideShapes Go.ChangeAt Go.RowKit
open Go.Proofs.Ytccbfekajbnehaa.oc Go.Proofs.Ytccbfekajbnehaa.dk Go.Proofs.Ytccbfekajbnehaa.fl Go.Proofs.Ytccbfekajbnehaa.wh Go.Proofs.Ytccbfekajbnehaa.en

/-- A new wheel on a new disk. -/
def wdC (c : Int) (b : Nat) : DiskS := ⟨-1, false, c, [⟨wslots, b, ⟨#[]⟩, laid ⟨#[]⟩ 0 (noughts 96)⟩], [⟨b, 0, noughts 96⟩]⟩
def wdE (c : Int) (b : Nat) : DiskS := ⟨-1, false, c, [⟨wslots, b, ⟨#[]⟩, ⟨#[]⟩⟩], []⟩
def Caps (c : Int) : Prop := c = 10000 ∨ c = 1048576 ∨ c = 16777216
theorem wnC {c : Int} (hc : Caps c) (b : Nat) : wnew (new c) b = (0, wdC c b) := by
  have h0 : (new c).names whead = [] := by simp [DiskS.names, DiskS.namesL, new]
  have h1 : cleared (new c) whead = (0, new c) := by unfold cleared; rw [if_pos h0]
  have h2 : (new c).create wslots b = (0, wdE c b) := by rcases hc with rfl | rfl | rfl <;> rfl
  have h3 : (wdE c b).write wslots 0 (noughts 96) = (0, wdC c b) := by rcases hc with rfl | rfl | rfl <;> rfl
  unfold wnew
  rw [h1, if_neg (fun h => h rfl), h2, if_neg (fun h => h rfl), h3]
theorem wdC_holds (c : Int) (b : Nat) : WhD (wdC c b) (List.replicate 16 0) := ⟨⟨rfl, rfl⟩, by rw [← wd1_bytes]; rfl, rfl, fun x hx => by rw [List.eq_of_mem_replicate hx]; decide⟩
theorem wdC_marks (c : Int) (b : Nat) : (wdC c b).bytes wmarks = none := rfl
theorem wdC_size (c : Int) (b : Nat) : (wdC c b).size = 96 := by
  have : (laid ⟨#[]⟩ 0 (noughts 96)).size = 96 := by rw [wd1_bytes]; decide
  show total [_] = 96
  unfold total
  simp only [List.map_cons, List.map_nil, List.foldr_cons, List.foldr_nil]
  rw [this]
theorem wdC_log (c : Int) (b b2 : Nat) : ∃ D, (wdC c b).create wmarks b2 = (0, D) ∧ LogD D [] (List.replicate 16 0) ∧ D.cap = c := by
  obtain ⟨D, h1, h2, h3⟩ := create_but (wdC_holds c b).alive (wdC_marks c b) b2
  refine ⟨D, h1, ⟨⟨h2.alive, (h2.others wslots (by decide)).trans (wdC_holds c b).slots, (wdC_holds c b).len, (wdC_holds c b).small⟩, h2.this, by rw [h3, wdC_size]; rfl, fun m hm => absurd hm List.not_mem_nil, fun x hx => ?_⟩, h2.cap⟩
  rw [List.eq_of_mem_replicate hx]; exact Nat.zero_le _
set_option maxRecDepth 100000 in
set_option maxHeartbeats 4000000 in
theorem New_at {p : Nat} {F : Nat → Prop} {c : Int} (hc : Caps c) (t : Int) (w : World) (h : DiskOk w p (new c) F 0) (ht : 0 ≤ t ∧ t ≤ 1099511627776) :
    Calls Try.prog 7 #[ptrTo p, .int .i64 t] w fun e w' => ∃ q l D' F', e = .returned (.tuple #[ptrTo l, .int .i64 0]) ∧ Log w' p q l 1 D' F' [] (List.replicate 16 0) t ∧ D'.cap = c ∧ Step F w (LF F' l q) w' := by
  have hnew := box (New_any t w h (by decide) ht (fun f hf => by cases hf) (Nat.zero_le _))
  clear h
  go_enter Try.func7, Try.ntmps7
  go_wp2_with fail
  refine hnew.out.mono ?_
  rintro e w1 ⟨b, v, F1, hb, rfl, hd, hs, hv⟩
  rw [wnC hc] at hd hv ⊢
  rcases hv with ⟨_, q, rfl, hq, hlt, hF⟩ | ⟨h, _⟩
  rotate_left
  · exact absurd rfl h
  have hcr := box (Create_ok wmarks w1 hd)
  have Hq := box hq
  have HqF := box hF
  have Hs := box hs
  have Hlt := box hlt
  clear hd hq hF hs hlt hnew hc hb
  go_wp2_with fail
  refine hcr.out.mono ?_
  rintro e w2 ⟨b2, _, hok⟩
  obtain ⟨D, h1, h2, h3⟩ := wdC_log c b b2
  obtain ⟨rfl, F2, hd2, hs2⟩ := hok.at h1
  have Hd2 := box hd2
  have Hs2 := box hs2
  have H2 := box h2
  clear hok h1 h2 hd2 hs2 hcr
  go_wp2_with fail
  go_ret2
  have hql := heap_lt Hq.out
  have hq2 := Hq.out.keep Hs2.out.keeps HqF.out
  have hql2 := heap_lt hq2
  have hqF2 : ¬ F2 q := fun hf => (Hs2.out.foot q hf).elim HqF.out (fun hx => by omega)
  have hlF2 : ¬ F2 w2.heap.size := fun hf => by have := Hd2.out.foot_lt _ hf; omega
  have hc2 : Calm w2 (w2.alloc (.cells #[ptrTo q, .int .i64 0] 53)) := (Calm.refl w2).alloc _
  refine ⟨q, w2.heap.size, D, F2, rfl, ⟨Hd2.out.calm hc2, H2.out, hq2.calm hc2, heap_new w2 _, hqF2, hlF2, by omega⟩, h3, ⟨((Hs.out.trans Hs2.out).calm hc2).keeps, fun x hx => ?_⟩⟩
  have := Hs.out.keeps.size
  have := Hs2.out.keeps.size
  rcases hx with (hx | rfl) | rfl
  · exact (Hs.out.trans Hs2.out).foot x hx
  · exact .inr (by omega)
  · exact .inr Hlt.out

/-- Blocks that are none of a timer log's. -/
def Other (T : TypeId) : Prop := T ≠ 59 ∧ T ≠ 97 ∧ T ≠ 77 ∧ T ≠ 73 ∧ T ≠ 53
def Free (w : World) (b : Nat) : Prop := (∃ T cur, Other T ∧ w.heap[b]? = some (Obj.cells cur T (0, 0))) ∨ (∃ es clock, w.heap[b]? = some (Obj.map es clock) ∧ ∀ x ∈ es.toList, ∀ s, x.key ≠ .string s)
def Frame (w w' : World) : Prop := ∀ b, Free w b → w'.heap[b]? = w.heap[b]?
theorem Free.lt {w : World} {b : Nat} (h : Free w b) : b < w.heap.size := by
  rcases h with ⟨T, cur, _, h⟩ | ⟨es, c, h, _⟩
  · exact heap_lt h
  · exact heap_lt h
theorem Frame.calm {w w' : World} (h : Calm w w') : Frame w w' := fun b hb => h.block b hb.lt
theorem free_apart {w : World} {p q l n b : Nat} {D : DiskS} {F : Nat → Prop} {E : List Mk} {H : List Nat} {t : Int} (h : Log w p q l n D F E H t) (hb : Free w b) : ¬ LF F l q b := fun hf => by
  obtain ⟨mb, wv, h1, rfl⟩ := h.disk.lies
  rcases hb with ⟨T, cur, ⟨t1, t2, t3, t4, t5⟩, hb⟩ | ⟨es, c, hb, hkey⟩
  · rcases hf with ((rfl | rfl | hf | hf) | rfl) | rfl
    · rw [h1.obj] at hb; simp only [Option.some.injEq, Obj.cells.injEq] at hb; exact t1 hb.2.1.symm
    · obtain ⟨es, c, hm, _⟩ := h1.map; rw [hm] at hb; cases hb
    · obtain ⟨c, hc⟩ := own_row h1.waits hf; rw [hc] at hb; simp only [Option.some.injEq, Obj.cells.injEq] at hb; exact t2 hb.2.1.symm
    · obtain ⟨f, hf', rfl⟩ := List.mem_map.1 hf
      rw [h1.files f hf'] at hb; simp only [Option.some.injEq, Obj.cells.injEq] at hb; exact t3 hb.2.1.symm
    · have hx := h.log; unfold LogAt at hx; rw [hx] at hb; simp only [Option.some.injEq, Obj.cells.injEq] at hb; exact t5 hb.2.1.symm
    · have hx := h.wheel; unfold WheelAt at hx; rw [hx] at hb; simp only [Option.some.injEq, Obj.cells.injEq] at hb; exact t4 hb.2.1.symm
  · rcases hf with ((rfl | rfl | hf | hf) | rfl) | rfl
    · rw [h1.obj] at hb; cases hb
    · obtain ⟨es', c', hm, _, he, _⟩ := h1.map
      rw [hm] at hb
      simp only [Option.some.injEq, Obj.map.injEq] at hb
      obtain ⟨rfl, _⟩ := hb
      obtain ⟨f, hf, _⟩ := bytes_some h.holds.wheel.slots
      have hmem := (find_some hf).1
      have : encF f ∈ es'.toList.map (fun e => (e.key, e.val)) := by rw [he]; exact List.mem_map.2 ⟨f, hmem, rfl⟩
      obtain ⟨x, hx, hxe⟩ := List.mem_map.1 this
      exact hkey x hx f.name (congrArg Prod.fst hxe)
    · obtain ⟨c, hc⟩ := own_row h1.waits hf; rw [hc] at hb; cases hb
    · obtain ⟨f, hf', rfl⟩ := List.mem_map.1 hf
      rw [h1.files f hf'] at hb; cases hb
    · have hx := h.log; unfold LogAt at hx; rw [hx] at hb; cases hb
    · have hx := h.wheel; unfold WheelAt at hx; rw [hx] at hb; cases hb
theorem Log.frame {w w' : World} {p q l n : Nat} {D : DiskS} {F F' : Nat → Prop} {E : List Mk} {H : List Nat} {t : Int} (h : Log w p q l n D F E H t) (hs : Step (LF F l q) w F' w') : Frame w w' := fun b hb => hs.keeps.block b hb.lt (free_apart h hb)

/-- A timer log, with what waits there. -/
structure TlX (cap : Int) (p q l : Nat) (W : List (Nat × Nat)) (t puts secs : Nat) (w0 w : World) (n : Nat) (D : DiskS) (F : Nat → Prop) (E : List Mk) (H : List Nat) (R : Nat → List Rc) : Prop where
  log : Log w p q l n D F E H (t : Int)
  rows : Rows E H R
  waits : Waits W R t
  few : Few W t E.length puts secs
  again : ∀ k, k < 16 → ∀ r ∈ R k, 1 ≤ r.puts ∧ r.puts ≤ 1 + secs
  calls : n ≤ 1 + 2 * E.length + secs
  cap : D.cap = cap
  owns : Owns w0 w (LF F l q)
def TlS (cap : Int) (p q l : Nat) (W : List (Nat × Nat)) (t puts secs : Nat) (w0 w : World) : Prop := ∃ n D F E H R, TlX cap p q l W t puts secs w0 w n D F E H R
section
variable {cap : Int} {p q l : Nat} {W : List (Nat × Nat)} {t puts secs : Nat} {w0 w : World}
theorem TlS.calm (h : TlS cap p q l W t puts secs w0 w) {w' : World} (hc : Calm w w') : TlS cap p q l W t puts secs w0 w' := by
  obtain ⟨n, D, F, E, H, R, h⟩ := h
  exact ⟨n, D, F, E, H, R, h.log.calm hc, h.rows, h.waits, h.few, h.again, h.calls, h.cap, h.owns.calm' hc⟩
theorem TlS.owns (h : TlS cap p q l W t puts secs w0 w) : Calm w0 w := by
  obtain ⟨n, D, F, E, H, R, h⟩ := h
  exact h.owns.calm
/-- Blocks of one's own, apart from it, may be turned. -/
theorem TlS.keep {K : Nat → Prop} {w' : World} (h : TlS cap p q l W t puts secs w0 w) (hk : Keeps K w w') (hK : ∀ b, K b → w0.heap.size ≤ b ∧ Free w b) : TlS cap p q l W t puts secs w0 w' := by
  obtain ⟨n, D, F, E, H, R, h⟩ := h
  have hx : ∀ b, LF F l q b → ¬ K b := fun b hf hb => free_apart h.log (hK b hb).2 hf
  exact ⟨n, D, F, E, H, R, ⟨h.log.disk.keep hk (fun b hf => hx b (.inl (.inl hf))), h.log.holds, h.log.wheel.keep hk (hx q (.inr rfl)), h.log.log.keep hk (hx l (.inl (.inr rfl))), h.log.qF, h.log.lF, h.log.apart⟩, h.rows, h.waits, h.few, h.again, h.calls, h.cap, ⟨Below.trans h.owns.calm (hk.below h.owns.calm.size (fun b hb => (hK b hb).1)), h.owns.foot⟩⟩
/-- There is room. -/
structure Room (cap : Int) (puts secs : Nat) : Prop where
  cap : ((136 + 2 * (31 * puts + puts * secs) : Nat) : Int) ≤ cap
  marks : 31 * puts + puts * secs ≤ 6000000
  secs : secs ≤ 60000
theorem Room.most (h : Room cap puts secs) {many : Nat} (hm : 16 * many ≤ 31 * puts + puts * secs) : many ≤ 375000 ∧ ((116 + 20 * many : Nat) : Int) ≤ cap := by
  have := h.cap; have := h.marks
  omega
theorem TlS.put (h : TlS cap p q l W t puts secs w0 w) (hr : Room cap puts secs) (due place : Nat) (h0 : due ≤ 1099511627776) (h1 : place ≤ 1099511627776) (hl : t < due) :
    Calls Try.prog 9 #[ptrTo l, .int .i64 (due : Int), .int .i64 (place : Int)] w fun e w' => e = .returned (.int .i64 0) ∧ TlS cap p q l (W ++ [(due, place)]) t (puts + 1) secs w0 w' ∧ Frame w w' := by
  obtain ⟨n, D, F, E, H, R, h⟩ := h
  obtain ⟨hm, hc⟩ := hr.most h.few.most
  have hcalls := h.calls
  have hsecs := hr.secs
  refine (Put_any due place h.log h0 h1 (by omega) (by omega) (by omega) (by rw [h.cap]; exact hc)).mono ?_
  rintro e w' ⟨rfl, D', F', hlog, hcap, hs⟩
  have hw := h.waits.put ⟨due, place, 1⟩ hl
  refine ⟨rfl, ⟨_, D', F', _, _, _, hlog, h.rows.laid ⟨due, place, 1⟩, hw, ?_, fun k hk r hr => ?_, ?_, hcap.trans h.cap, h.owns.step (hs.or q)⟩, h.log.frame (hs.or q)⟩
  · rw [List.length_append, List.length_singleton]
    exact h.few.put (due, place)
  · unfold upd at hr
    by_cases e : k = due % 16
    · rw [if_pos e] at hr
      rcases List.mem_append.1 hr with hr | hr
      · exact h.again _ (e ▸ hk) r hr
      · rw [List.mem_singleton] at hr
        subst hr
        exact ⟨Nat.le_refl _, Nat.le_add_right _ _⟩
    · rw [if_neg e] at hr
      exact h.again k hk r hr
  · rw [List.length_append, List.length_singleton]; omega
theorem TlS.late (h : TlS cap p q l W t puts secs w0 w) (due place : Int) (h0 : 0 ≤ due ∧ due ≤ 1099511627776) (h1 : 0 ≤ place ∧ place ≤ 1099511627776) (hl : due ≤ t) :
    Calls Try.prog 9 #[ptrTo l, .int .i64 due, .int .i64 place] w fun e w' => e = .returned (.int .i64 16) ∧ w = w' := by
  obtain ⟨n, D, F, E, H, R, h⟩ := h
  exact PutLate_any due place h.log h0 h1 hl
theorem TlS.hand (h : TlS cap p q l W t puts secs w0 w) : Calls Try.prog 13 #[ptrTo l] w fun e w' => e = .returned (.int .i64 (t : Int)) ∧ w = w' := by
  obtain ⟨n, D, F, E, H, R, h⟩ := h
  exact tHand_any h.log
theorem TlS.many (h : TlS cap p q l W t puts secs w0 w) (hr : Room cap puts secs) : Calls Try.prog 12 #[ptrTo l] w fun e w' => e = .returned (.tuple #[.int .i64 (W.length : Int), .int .i64 0]) ∧ Calm w w' := by
  obtain ⟨n, D, F, E, H, R, h⟩ := h
  obtain ⟨hm, hc⟩ := hr.most h.few.most
  have hp := h.few.waits
  have hmk := hr.marks
  have := Waits_any h.log h.rows (by omega) (fun k hk => by rw [h.waits.cnt k hk]; have := cntW_le W k hk; omega)
  rw [h.waits.cnt 16 (Nat.le_refl _), cntW_all] at this
  exact this
theorem TlS.stays (h : TlS cap p q l W t puts secs w0 w) (ht : t ≤ 9000000000000000000) (now : Int) (hn : now ≤ t) :
    Calls Try.prog 10 #[ptrTo l, .int .i64 now] w fun e w' => e = .returned (.tuple #[.slice none 0 0, .bool false, .int .i64 0]) ∧ TlS cap p q l W t puts secs w0 w' ∧ Frame w w' := by
  obtain ⟨n, D, F, E, H, R, h⟩ := h
  refine (Next_stays now t h.log ht hn).mono ?_
  rintro e w' ⟨rfl, hlog, hs⟩
  exact ⟨rfl, ⟨n, D, F, E, H, R, hlog, h.rows, h.waits, h.few, h.again, h.calls, h.cap, h.owns.step hs⟩, h.log.frame hs⟩
theorem TlS.next (h : TlS cap p q l W t puts secs w0 w) (hr : Room cap puts (secs + 1)) (ht : t + 1 ≤ 9000000000000000000) (now : Int) (hn : (t : Int) < now) :
    Calls Try.prog 10 #[ptrTo l, .int .i64 now] w fun e w' => ∃ v L, e = .returned (.tuple #[v, .bool true, .int .i64 0]) ∧ MarksAt w' v L ∧ From w.heap.size v ∧ L.map (fun m => (m.rc.due, m.rc.place)) = W.filter (fun x => x.1 == t + 1) ∧ (∀ m ∈ L, 1 ≤ m.rc.puts) ∧
      TlS cap p q l (W.filter fun x => !(x.1 == t + 1)) (t + 1) puts (secs + 1) w0 w' ∧ Frame w w' := by
  obtain ⟨n, D, F, E, H, R, h⟩ := h
  have hf := h.few.tick h.waits
  obtain ⟨hm, hc⟩ := hr.most hf.most
  have hcalls := h.calls
  have hsecs := hr.secs
  have hk16 : (t + 1) % 16 < 16 := Nat.mod_lt _ (by decide)
  refine (Next_goes now t h.log h.rows hn ht (by omega) (by omega) (by rw [h.cap]; exact hc) (fun r hr => ⟨(h.waits.mem hk16 hr).1, by have := (h.again _ hk16 r hr).2; omega⟩)).mono ?_
  rintro e w' ⟨v, L, n', D', F', E', H', rfl, hm', hL, hfr, hlog, hrows, hlen, hn', hcap, hs⟩
  refine ⟨v, L, rfl, hm', hfr, ?_, fun m hmem => ?_, ⟨n', D', F', E', H', _, hlog, hrows, h.waits.left, by rw [hlen]; exact hf, fun k hk r hr => ?_, by rw [hlen]; omega, hcap.trans h.cap, h.owns.step hs⟩, h.log.frame hs⟩
  · rw [← h.waits.told, ← hL, List.map_map]; rfl
  · have : m.rc ∈ told (t + 1) (R ((t + 1) % 16)) := by rw [← hL]; exact List.mem_map.2 ⟨m, hmem, rfl⟩
    exact (h.again _ hk16 _ (List.mem_filter.1 this).1).1
  · unfold upd at hr
    by_cases e : k = (t + 1) % 16
    · rw [if_pos e] at hr
      unfold left at hr
      obtain ⟨x, hx, rfl⟩ := List.mem_map.1 hr
      have := (h.again _ hk16 x (List.mem_filter.1 hx).1).2
      refine ⟨Nat.le_add_left 1 _, ?_⟩
      show x.puts + 1 ≤ _
      omega
    · rw [if_neg e] at hr
      have := h.again k hk r hr
      omega
theorem TlS.new {F : Nat → Prop} (hc : Caps cap) (t : Nat) (h : DiskOk w p (new cap) F 0) (ht : t ≤ 1099511627776) (ho : Owns w0 w F) :
    Calls Try.prog 7 #[ptrTo p, .int .i64 (t : Int)] w fun e w' => ∃ q l, e = .returned (.tuple #[ptrTo l, .int .i64 0]) ∧ TlS cap p q l [] t 0 0 w0 w' := by
  refine (New_at hc (t : Int) w h (by omega)).mono ?_
  rintro e w' ⟨q, l, D', F', rfl, hlog, hcap, hs⟩
  exact ⟨q, l, rfl, 1, D', F', [], _, fun _ => [], hlog, Rows.start, ⟨fun k hk => rfl, fun x hx => absurd hx List.not_mem_nil⟩, ⟨Nat.le_refl _, Nat.zero_le _⟩, fun k hk r hr => absurd hr List.not_mem_nil, Nat.le_refl _, hcap, ho.step hs⟩
end
end Go.Proofs.Ytccbfekajbnehaa.tl

/- Layer 16: the laws' rows of operations: read, made by append. -/
namespace Go.Proofs.Ytccbfekajbnehaa.tl
open Go.ChangeShapes Go.WideShapes Go.ChangeAt Go.RowKit
open Go.Proofs.Ytccbfekajbnehaa.oc Go.Proofs.Ytccbfekajbnehaa.dk Go.Proofs.Ytccbfekajbnehaa.fl Go.Proofs.Ytccbfekajbnehaa.wh Go.Proofs.Ytccbfekajbnehaa.en

structure OpS where
  k : Int
  due : Int
  place : Int
def OpR : Reads OpS := fun _ cs a => cs = [.int .i64 a.k, .int .i64 a.due, .int .i64 a.place] ∧ (-9223372036854775808 ≤ a.k ∧ a.k ≤ 9223372036854775807) ∧ (-9223372036854775808 ≤ a.due ∧ a.due ≤ 9223372036854775807) ∧ -9223372036854775808 ≤ a.place ∧ a.place ≤ 9223372036854775807
theorem OpR.lasts : OpR.Lasts := fun _ _ _ _ h _ => h
set_option maxRecDepth 100000 in
theorem opens_op : Opens Try.prog 40 OpR := fun H enc w base sp held fuel cs x h => by
  obtain ⟨xs, n, _, _, hlen, hxl, hg⟩ := DataW.trod_struct Try.underlying40 h
  rw [show Try.prog.cellsOf 40 = 3 by kernel_rfl] at hlen
  match cs, hlen with
  | [c0, c1, c2], _ =>
    simp only [List.size_toArray, List.length_cons, List.length_nil] at hxl
    have g0 := hg 0 _ rfl
    have g1 := hg 1 _ rfl
    have g2 := hg 2 _ rfl
    clear hg
    rw [List.getElem?_eq_getElem (by omega)] at g0 g1 g2
    obtain ⟨a, ha, ha2, ha3⟩ := opens_int Try.underlying3 _ _ _ _ _ _ _ _ _ g0
    obtain ⟨k, hk, hk2, hk3⟩ := opens_int Try.underlying3 _ _ _ _ _ _ _ _ _ g1
    obtain ⟨m, hm, hm2, hm3⟩ := opens_int Try.underlying3 _ _ _ _ _ _ _ _ _ g2
    have n1 : Try.prog.cellsOf 3 = 1 := by kernel_rfl
    refine ⟨⟨a, k, m⟩, ?_, ⟨ha2, ha3⟩, ⟨hk2, hk3⟩, hm2, hm3⟩
    simp [n1] at ha hk hm
    subst ha hk hm
    rfl
theorem RowsAt.ops {w : World} {v : Value} {l : List OpS} (h : RowsAt OpR 3 w v l) : ∃ a cap, v = .slice a l.length cap ∧ l.length ≤ maxLen ∧ ∀ i (hi : i < l.length), ∃ b off, a = some ⟨b, off, none⟩ ∧ b < w.heap.size ∧
    w.cell? ⟨b, off + i * 3, none⟩ = some (.int .i64 l[i].k) ∧ w.cell? ⟨b, off + i * 3 + 1, none⟩ = some (.int .i64 l[i].due) ∧ w.cell? ⟨b, off + i * 3 + 2, none⟩ = some (.int .i64 l[i].place) ∧
    (-9223372036854775808 ≤ l[i].k ∧ l[i].k ≤ 9223372036854775807) ∧ (-9223372036854775808 ≤ l[i].due ∧ l[i].due ≤ 9223372036854775807) ∧ -9223372036854775808 ≤ l[i].place ∧ l[i].place ≤ 9223372036854775807 := by
  obtain ⟨a, cap, rfl, h2, h3, h4⟩ := h
  refine ⟨a, cap, rfl, by omega, fun i hi => ?_⟩
  obtain ⟨b, off, cs, e, hb, hl, hcell, hr, hm⟩ := h4 i hi
  subst hr
  exact ⟨b, off, e, hb, hcell 0 (by omega), hcell 1 (by omega), hcell 2 (by omega), hm⟩

def encO (x : Nat × Nat) : List Value := [.int .i64 0, .int .i64 (x.1 : Int), .int .i64 (x.2 : Int)]
theorem encO_get : ∀ (L : List (Nat × Nat)) (j : Nat) (hj : j < L.length), (L.flatMap encO)[j * 3]? = some (.int .i64 0) ∧ (L.flatMap encO)[j * 3 + 1]? = some (.int .i64 (L[j].1 : Int)) ∧ (L.flatMap encO)[j * 3 + 2]? = some (.int .i64 (L[j].2 : Int))
  | x :: L, 0, _ => ⟨rfl, rfl, rfl⟩
  | x :: L, j + 1, hj => by
    have := encO_get L j (by simpa using hj)
    simp only [List.flatMap_cons, List.getElem_cons_succ]
    have e : ∀ k, (encO x ++ L.flatMap encO)[(j + 1) * 3 + k]? = (L.flatMap encO)[j * 3 + k]? := fun k => by
      rw [List.getElem?_append_right (by simp [encO]; omega)]; congr 1; simp [encO]; omega
    have e0 := e 0
    simp only [Nat.add_zero] at e0
    rw [e0, e 1, e 2]; exact this
abbrev opRow (B : Nat) (w : World) (v : Value) (l : List (Nat × Nat)) : Prop := w.ownsRow B 40 3 v l.length (l.flatMap encO)
theorem opRow.shape {B : Nat} {w : World} {v : Value} {l : List (Nat × Nat)} (h : opRow B w v l) : ∃ a cap, v = .slice a l.length cap ∧ ∀ i (hi : i < l.length), ∃ b, a = some ⟨b, 0, none⟩ ∧ b < w.heap.size ∧
    w.cell? ⟨b, i * 3, none⟩ = some (.int .i64 0) ∧ w.cell? ⟨b, i * 3 + 1, none⟩ = some (.int .i64 (l[i].1 : Int)) ∧ w.cell? ⟨b, i * 3 + 2, none⟩ = some (.int .i64 (l[i].2 : Int)) := by
  rcases h.2 with ⟨rfl, hn⟩ | ⟨g, cap, cur, rfl, hb, hg, hnc, hcm, hcs, htake⟩
  · exact ⟨none, 0, by rw [hn], fun i hi => by omega⟩
  · refine ⟨_, cap, rfl, fun i hi => ⟨g, rfl, heap_lt hg, ?_⟩⟩
    have hc : ∀ j u, (l.flatMap encO)[j]? = some u → w.cell? ⟨g, j, none⟩ = some u := fun j u hj => by
      have := h.cells (g := g) rfl j u hj
      rwa [add_lit] at this
    obtain ⟨h0, h1, h2⟩ := encO_get l i hi
    exact ⟨hc _ _ h0, hc _ _ h1, hc _ _ h2⟩
theorem infoOp : (Try.prog.info? 40).map (fun i => (i.zero, i.size, i.bytes)) = some (some (.agg #[.int .i64 0, .int .i64 0, .int .i64 0]), 3, 24) := by kernel_rfl
theorem append_op (B : Nat) (w : World) (v : Value) (L : List (Nat × Nat)) (x : Nat × Nat) (h : opRow B w v L) (hB : B ≤ w.heap.size) (hl : L.length ≤ 1000000) (ty : TypeId) :
    ∃ v' w', (Builtin.append_ #[38, 38] ty #[v, .slice (some ⟨w.heap.size, 0, none⟩) 1 1]).run Try.prog (w.alloc (.cells #[.int .i64 0, .int .i64 (x.1 : Int), .int .i64 (x.2 : Int)] 40)) = .ok v' w' ∧ opRow B w' v' (L ++ [x]) ∧
      Keeps (fun g => v.ownBlock = some g) w w' := by
  obtain ⟨i0, hi, hz0, hz1, hz2⟩ := info_parts infoOp
  have hb := heap_new w (.cells #[.int .i64 0, .int .i64 (x.1 : Int), .int .i64 (x.2 : Int)] 40)
  obtain ⟨v', w', h1, h2, h3, h4⟩ := append_own (P := Try.prog) (w.alloc (.cells #[.int .i64 0, .int .i64 (x.1 : Int), .int .i64 (x.2 : Int)] 40)) 38 ty 40 i0 _ 3 24 Try.underlying38 hi hz0 hz1 hz2 (by kernel_rfl) (by decide) v L.length _ (row_zero (h.alloc _)) ⟨w.heap.size, 0, none⟩ 1 1 (by decide) (encO x) rfl (fun j u hj => by
      rw [add_lit, cell_of hb]
      match j, hj with
      | 0, hj => exact hj
      | 1, hj => exact hj
      | 2, hj => exact hj
      | k + 3, hj => simp [encO] at hj) (fun u hu => by
      rcases List.mem_cons.1 hu with rfl | hu
      · rfl
      rcases List.mem_cons.1 hu with rfl | hu
      · rfl
      rcases List.mem_cons.1 hu with rfl | hu
      · rfl
      cases hu) (by simp only [maxLen]; omega) (by omega)
  refine ⟨v', w', h1, ?_, ?_⟩
  · show w'.ownsRow B _ 3 v' (L ++ [x]).length ((L ++ [x]).flatMap encO)
    refine row_base ?_ (fun g e => ?_)
    rotate_left
    · rcases h4 with h4 | h4
      · exact (h.lt g (h4.symm.trans e)).1
      · rw [h4] at e; cases e; simp; omega
    rw [List.flatMap_append, List.length_append]
    simpa using h2
  · exact (((Keeps.refl (fun g => v.ownBlock = some g) w).alloc _).trans' (h3.mono (fun b _ h => h)))
/-- A row of one's own, of another type, lies as it did. -/
theorem row_frame {w w' : World} {base n size : Nat} {v : Value} {e : TypeId} {xs : List Value} (h : w.ownsRow base e size v n xs) (hO : Other e) (hF : Frame w w') : w'.ownsRow base e size v n xs :=
  row_same h (fun g hg => by
    obtain ⟨cur, hc⟩ := own_row h hg
    exact hF g (.inl ⟨e, cur, hO, hc⟩))
theorem TlS.row {cap : Int} {p q l : Nat} {W : List (Nat × Nat)} {t puts secs : Nat} {w0 w w' : World} {base n size : Nat} {v : Value} {e : TypeId} {xs : List Value} (h : TlS cap p q l W t puts secs w0 w) (hr : w.ownsRow base e size v n xs) (hO : Other e) (hB : w0.heap.size ≤ base) (hk : Keeps (fun g => v.ownBlock = some g) w w') : TlS cap p q l W t puts secs w0 w' :=
  h.keep hk (fun b hb => ⟨Nat.le_trans hB (hr.lt b hb).1, by
    obtain ⟨cur, hc⟩ := own_row hr hb
    exact .inl ⟨e, cur, hO, hc⟩⟩)
theorem other_op : Other 40 := by unfold Other; decide
theorem other_int : Other 3 := by unfold Other; decide
/-- Two rows of unlike types lie apart. -/
theorem row_apart {w w' : World} {base n size base2 n2 size2 : Nat} {v v2 : Value} {e e2 : TypeId} {xs xs2 : List Value} (h : w.ownsRow base e size v n xs) (h2 : w.ownsRow base2 e2 size2 v2 n2 xs2) (hne : e ≠ e2) (hk : Keeps (fun g => v2.ownBlock = some g) w w') : w'.ownsRow base e size v n xs :=
  row_same h (fun g hg => by
    obtain ⟨cur, hc⟩ := own_row h hg
    refine hk.block g (heap_lt hc) (fun hf => ?_)
    obtain ⟨c2, hc2⟩ := own_row h2 hf
    rw [hc] at hc2
    simp only [Option.some.injEq, Obj.cells.injEq] at hc2
    exact hne hc2.2.1)
end Go.Proofs.Ytccbfekajbnehaa.tl

/- Layer 16: the laws' example. -/
namespace Go.Proofs.Ytccbfekajbnehaa.tl
open Go.ChangeShapes Go.WideShapes Go.ChangeAt Go.RowKit
open Go.Proofs.Ytccbfekajbnehaa.oc Go.Proofs.Ytccbfekajbnehaa.dk Go.Proofs.Ytccbfekajbnehaa.fl Go.Proofs.Ytccbfekajbnehaa.wh Go.Proofs.Ytccbfekajbnehaa.en

/-- What waits in the example when the hand is at k - 1. -/
def awW (k : Nat) : List (Nat × Nat) := if k ≤ 20 then [(20, 7)] else []
theorem awW_told (k : Nat) (h : k ≤ 20) (h1 : 1 ≤ k) : (awW k).filter (fun x => x.1 == k - 1 + 1) = if k = 20 then [(20, 7)] else [] := by
  unfold awW
  rw [if_pos h]
  by_cases e : k = 20
  · subst e; rfl
  · rw [if_neg e, List.filter_cons_of_neg (by simp; omega)]; rfl
theorem awW_left (k : Nat) (h : k ≤ 20) (h1 : 1 ≤ k) : (awW k).filter (fun x => !(x.1 == k - 1 + 1)) = awW (k + 1) := by
  unfold awW
  rw [if_pos h]
  by_cases e : k = 20
  · subst e; rfl
  · rw [if_pos (by omega), List.filter_cons_of_pos (by simp; omega)]; rfl
theorem aw_room (k : Nat) (h : k ≤ 20) : Room 10000 1 k := ⟨by omega, by omega, by omega⟩
set_option maxRecDepth 100000 in
set_option maxHeartbeats 4000000 in
theorem awake_any (W : World) : Calls Try.prog 6 #[] W fun e W' => e = .returned (.bool true) ∧ Calm W W' := by
  go_enter Try.func6, Try.ntmps6
  go_wp2_with fail
  refine (New_ok _ 10000).mono ?_
  rintro e w1 ⟨p, F, rfl, h1, hc1, hF1⟩
  have O1 := box ((Owns.refl W).new hc1 hF1)
  have H1 := box h1
  clear h1 hc1 hF1
  go_wp2_with fail
  refine (TlS.new (w0 := W) (.inl rfl) 0 H1.out (by decide) O1.out).mono ?_
  rintro e w2 ⟨q, l, rfl, h2⟩
  have H2 := box h2
  clear h2
  go_wp2_with fail
  refine (H2.out.put ⟨by decide, by decide, by decide⟩ 20 7 (by decide) (by decide) (by decide)).mono ?_
  rintro e w3 ⟨rfl, h3, _⟩
  have H3 := box h3
  clear h3
  go_wp2_with fail
  go_loopw [3] (fun nv wr => ∃ k : Nat, 1 ≤ k ∧ k ≤ 21 ∧ nv = .int .i64 k ∧ TlS 10000 p q l (awW k) (k - 1) 1 (k - 1) W wr) (fun nv _ => 21 - (intOf nv).toNat)
  case atStart => exact ⟨1, by decide, by decide, rfl, H3.out⟩
  case round =>
    obtain ⟨k, hk1, hk, rfl, hS⟩ := hrel
    have HS := box hS
    clear hS
    by_cases hlt : k ≤ 20
    · go_wp2_with fail
      refine (HS.out.next (by rw [show k - 1 + 1 = k by omega]; exact aw_room k hlt) (by omega) 20 (by omega)).mono ?_
      rw [awW_told k hlt hk1, awW_left k hlt hk1]
      rintro e w4 ⟨v, L, rfl, hm, _, hL, _, hS4, _⟩
      have HS4 := box (show TlS 10000 p q l (awW (k + 1)) (k + 1 - 1) 1 (k + 1 - 1) W w4 by rw [show k - 1 + 1 = k + 1 - 1 by omega] at hS4; exact hS4)
      obtain ⟨a, cap, hv, _⟩ := hm
      subst hv
      have hlen := congrArg List.length hL
      rw [List.length_map] at hlen
      clear hS4 hL
      by_cases e : k = 20
      · subst e
        rw [if_pos rfl, List.length_singleton] at hlen
        rw [hlen]
        go_wp2_with fail
        go_roundw
        case rel => exact ⟨21, by decide, by decide, rfl, HS4.out⟩
        case measure => simp [intOf]
      · rw [if_neg e, List.length_nil] at hlen
        rw [hlen]
        have hq : Int.tdiv (k : Int) 20 = 0 := by rw [Int.tdiv_eq_ediv_of_nonneg (by omega)]; omega
        go_wp2_with fail
        go_roundw
        case rel => exact ⟨k + 1, by omega, by omega, by go_num, HS4.out⟩
        case measure => simp [intOf]; omega
    · obtain rfl : k = 21 := by omega
      go_wp2_with fail
      refine HS.out.hand.mono ?_
      rintro e w4 ⟨rfl, rfl⟩
      go_wp2_with fail
      go_ret
      exact ⟨ret_bool (by simp), HS.out.owns⟩
end Go.Proofs.Ytccbfekajbnehaa.tl

/- Layer 16: what TlogFar needs: one record, how often it was put. -/
namespace Go.Proofs.Ytccbfekajbnehaa.tl
open Go.ChangeShapes Go.WideShapes Go.ChangeAt Go.RowKit
open Go.Proofs.Ytccbfekajbnehaa.oc Go.Proofs.Ytccbfekajbnehaa.dk Go.Proofs.Ytccbfekajbnehaa.fl Go.Proofs.Ytccbfekajbnehaa.wh Go.Proofs.Ytccbfekajbnehaa.en

/-- How often the hand went by when it is at k. -/
def farC (h due k : Nat) : Nat := (due - 1 - h) / 16 - (due - 1 - k) / 16
def farR (due c : Nat) (j : Nat) : List Rc := if j = due % 16 then [⟨due, 5, c⟩] else []
structure FarX (h due p q l k : Nat) (w0 w : World) (n : Nat) (D : DiskS) (F : Nat → Prop) (E : List Mk) (H : List Nat) (R : Nat → List Rc) : Prop where
  log : Log w p q l n D F E H (k : Int)
  rows : Rows E H R
  row : k < due → ∀ j, j < 16 → R j = farR due (1 + farC h due k) j
  len : E.length = 1 + farC h due k
  calls : n ≤ 1 + 2 * E.length + k
  cap : D.cap = 1048576
  owns : Owns w0 w (LF F l q)
def FarS (h due p q l k : Nat) (w0 w : World) : Prop := ∃ n D F E H R, FarX h due p q l k w0 w n D F E H R
section
variable {h due p q l k : Nat} {w0 w : World}
theorem FarS.calm (hS : FarS h due p q l k w0 w) {w' : World} (hc : Calm w w') : FarS h due p q l k w0 w' := by
  obtain ⟨n, D, F, E, H, R, hX⟩ := hS
  exact ⟨n, D, F, E, H, R, hX.log.calm hc, hX.rows, hX.row, hX.len, hX.calls, hX.cap, hX.owns.calm' hc⟩
theorem FarS.owns (hS : FarS h due p q l k w0 w) : Calm w0 w := by
  obtain ⟨n, D, F, E, H, R, hX⟩ := hS
  exact hX.owns.calm
theorem FarS.many (hS : FarS h due p q l k w0 w) : Calls Try.prog 11 #[ptrTo l] w fun e w' => e = .returned (.int .i64 ((1 + farC h due k : Nat) : Int)) ∧ w = w' := by
  obtain ⟨n, D, F, E, H, R, hX⟩ := hS
  have := tLen_any hX.log
  rw [hX.len] at this
  exact this
theorem FarS.new {F : Nat → Prop} (hd : DiskOk w p (new 1048576) F 0) (hh : h ≤ 1000) (ho : Owns w0 w F) :
    Calls Try.prog 7 #[ptrTo p, .int .i64 (h : Int)] w fun e w' => ∃ q l D F, e = .returned (.tuple #[ptrTo l, .int .i64 0]) ∧ Log w' p q l 1 D F [] (List.replicate 16 0) (h : Int) ∧ D.cap = 1048576 ∧ Owns w0 w' (LF F l q) := by
  refine (New_at (.inr (.inl rfl)) (h : Int) w hd (by omega)).mono ?_
  rintro e w' ⟨q, l, D', F', rfl, hlog, hcap, hs⟩
  exact ⟨q, l, D', F', rfl, hlog, hcap, ho.step hs⟩
theorem FarS.put {D : DiskS} {F : Nat → Prop} (hlog : Log w p q l 1 D F [] (List.replicate 16 0) (h : Int)) (hcap : D.cap = 1048576) (ho : Owns w0 w (LF F l q)) (hd : h < due) (hd2 : due ≤ 2000) :
    Calls Try.prog 9 #[ptrTo l, .int .i64 (due : Int), .int .i64 5] w fun e w' => e = .returned (.int .i64 0) ∧ FarS h due p q l h w0 w' := by
  refine (Put_any due 5 hlog (by omega) (by omega) (by omega) (by omega) (Nat.zero_le _) (by rw [hcap]; decide)).mono ?_
  rintro e w' ⟨rfl, D', F', hlog2, hcap2, hs⟩
  have hc0 : farC h due h = 0 := by unfold farC; omega
  refine ⟨rfl, 3, D', F', _, _, _, hlog2, Rows.start.laid ⟨due, 5, 1⟩, fun _ j hj => ?_, by rw [hc0]; rfl, by show 3 ≤ 1 + 2 * 1 + h; omega, hcap2.trans hcap, ho.step (hs.or q)⟩
  rw [hc0]
  rfl
theorem farC_tick (hk : h ≤ k) (hd : k < due) : farC h due (k + 1) = farC h due k + if (k + 1) % 16 = due % 16 ∧ k + 1 < due then 1 else 0 := by
  unfold farC
  by_cases hx : (k + 1) % 16 = due % 16 ∧ k + 1 < due
  · rw [if_pos hx]; omega
  · rw [if_neg hx]; omega
theorem farC_le : farC h due k ≤ due := by unfold farC; omega
theorem FarS.next (hS : FarS h due p q l k w0 w) (hk : h ≤ k) (hd : k < due) (hd2 : due ≤ 2000) :
    Calls Try.prog 10 #[ptrTo l, .int .i64 (due : Int)] w fun e w' => ∃ v L, e = .returned (.tuple #[v, .bool true, .int .i64 0]) ∧ MarksAt w' v L ∧ L.map Mk.rc = (if k + 1 = due then [⟨due, 5, 1 + farC h due (k + 1)⟩] else []) ∧ FarS h due p q l (k + 1) w0 w' := by
  obtain ⟨n, D, F, E, H, R, hX⟩ := hS
  have hk16 : (k + 1) % 16 < 16 := Nat.mod_lt _ (by decide)
  have hR := hX.row hd _ hk16
  have htick := farC_tick hk hd
  have hcl := farC_le (h := h) (due := due) (k := k)
  have hlen := hX.len
  have hcalls := hX.calls
  have hleft : left (k + 1) (R ((k + 1) % 16)) = if (k + 1) % 16 = due % 16 ∧ k + 1 < due then [⟨due, 5, 2 + farC h due k⟩] else [] := by
    rw [hR]
    unfold farR
    by_cases h1 : (k + 1) % 16 = due % 16
    · rw [if_pos h1]
      by_cases h2 : k + 1 < due
      · rw [if_pos ⟨h1, h2⟩]
        unfold left soon
        rw [List.filter_cons_of_pos (by rw [decide_eq_false (by simp only; omega)]; rfl)]
        show [(⟨due, 5, 1 + farC h due k + 1⟩ : Rc)] = _
        rw [show 1 + farC h due k + 1 = 2 + farC h due k by omega]
      · rw [if_neg (fun hx => h2 hx.2)]
        unfold left soon
        rw [List.filter_cons_of_neg (by rw [decide_eq_true (by simp only; omega)]; exact Bool.false_ne_true)]
        rfl
    · rw [if_neg h1, if_neg (fun hx => h1 hx.1)]; rfl
  have htold : told (k + 1) (R ((k + 1) % 16)) = if k + 1 = due then [⟨due, 5, 1 + farC h due (k + 1)⟩] else [] := by
    rw [hR]
    unfold farR
    by_cases h1 : (k + 1) % 16 = due % 16
    · rw [if_pos h1]
      by_cases h2 : k + 1 = due
      · rw [if_pos h2, htick, if_neg (fun hx => by omega), Nat.add_zero]
        unfold told soon
        rw [List.filter_cons_of_pos (by rw [decide_eq_true (by simp only; omega)])]; rfl
      · rw [if_neg h2]
        unfold told soon
        rw [List.filter_cons_of_neg (by rw [decide_eq_false (by simp only; omega)]; exact Bool.false_ne_true)]; rfl
    · rw [if_neg h1, if_neg (fun hx => h1 (by rw [hx]))]; rfl
  have hll : (left (k + 1) (R ((k + 1) % 16))).length = if (k + 1) % 16 = due % 16 ∧ k + 1 < due then 1 else 0 := by
    rw [hleft]; split <;> rfl
  have hl1 : (left (k + 1) (R ((k + 1) % 16))).length ≤ 1 := by rw [hll]; split <;> omega
  refine (Next_goes (due : Int) k hX.log hX.rows (by omega) (by omega) (by omega) (by omega) (by rw [hX.cap]; omega) (fun r hr => ?_)).mono ?_
  · rw [hR] at hr
    unfold farR at hr
    by_cases h1 : (k + 1) % 16 = due % 16
    · rw [if_pos h1, List.mem_singleton] at hr
      subst hr
      exact ⟨h1.symm, by simp only; omega⟩
    · rw [if_neg h1] at hr; cases hr
  · rintro e w' ⟨v, L, n', D', F', E', H', rfl, hm, hL, _, hlog, hrows, hlen', hn', hcap, hs⟩
    refine ⟨v, L, rfl, hm, by rw [hL, htold], n', D', F', E', H', _, hlog, hrows, fun h2 j hj => ?_, by rw [hlen', hll, htick, hlen]; omega, by omega, hcap.trans hX.cap, hX.owns.step hs⟩
    unfold upd
    rw [htick, hleft]
    have hRj := hX.row hd j hj
    by_cases e : j = (k + 1) % 16
    · rw [if_pos e]
      unfold farR
      by_cases h1 : (k + 1) % 16 = due % 16
      · rw [if_pos ⟨h1, h2⟩, if_pos (e.trans h1), if_pos ⟨h1, h2⟩, show 1 + (farC h due k + 1) = 2 + farC h due k by omega]
      · rw [if_neg (fun hx => h1 hx.1), if_neg (fun hx => h1 (e ▸ hx))]
    · rw [if_neg e, hRj]
      unfold farR
      by_cases h3 : j = due % 16
      · rw [if_pos h3, if_pos h3, if_neg (fun hx => e (h3.trans hx.1.symm)), Nat.add_zero]
      · rw [if_neg h3, if_neg h3]
end
end Go.Proofs.Ytccbfekajbnehaa.tl
