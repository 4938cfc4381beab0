/- Layer 4: lasts, drop. -/
import Derived.Test.YtbmhjojlbmbpkaaDisk7
import Derived.StillTailTactics
import Derived.Deep.RegionHeld3
namespace Go.Proofs.Ytbmhjojlbmbpkaa.dk
open Go.ChangeShapes Go.WideShapes Go.ChangeAt Go.RowKit

section
variable {w w' w1 : World} {p mb : Nat} {wv wv' : Value} {D : DiskS} {F : Nat → Prop}

theorem DeleteFunc_any (G fb b : Nat) (hG : DelFn G) (wv : Value) (L : List WaitS) (w : World) (h : w.ownsRow 0 83 3 wv L.length (L.flatMap encW))
    (hfb : w.cell? ⟨fb, 0, none⟩ = some (ptrTo b)) (hb : Plain w b) (hL : ∀ x ∈ L, Plain w x.blk) (hlen : L.length ≤ 1000000) (hne : ∀ g, wv.ownBlock = some g → g ≠ fb ∧ g ≠ b ∧ ∀ x ∈ L, g ≠ x.blk) :
    Calls Try.prog 59 #[wv, .func (.func G) #[] #[ptrTo fb]] w (DelDone wv (keepW b L) w) := by
  rcases h.2 with ⟨rfl, h0⟩ | ⟨g, cap, cur, rfl, _, hc, h1, h2, h3, h4⟩
  · have hL0 : L = [] := List.eq_nil_of_length_eq_zero h0
    subst hL0
    have hdone : DelDone (.slice none 0 0) (keepW b []) w (.returned (.slice none 0 0)) w := ⟨_, rfl, ⟨rfl, .inl ⟨rfl, rfl⟩⟩, .refl _ _, rfl⟩
    have Hd := box hdone
    clear hdone h
    have hen := hG.1
    unfold EntersF at hen
    clear hG
    all_goals
      go_enter Try.func59, Try.ntmps59
      go_wp2_with fail
      refine (IndexFuncNil_any _ _).mono ?_
      rintro e w' ⟨rfl, rfl⟩
      go_wp2_with fail
      go_ret
      exact Hd.out
  · exact DeleteFunc_in G fb b hG g cap L w ⟨cur, hc, h1, h2, h3, h4⟩ hfb hb hL hlen (hne g rfl)

/-- The waiting writes turn: their row's slice is stored anew. -/
theorem DiskIn.rowTo (h : DiskIn w p mb wv D) (k : Keeps (fun g => wv.ownBlock = some g) w w1) {L : List WaitS} (r : w1.ownsRow 0 83 3 wv' L.length (L.flatMap encW)) (o : ∀ g, wv'.ownBlock = some g → wv.ownBlock = some g ∨ w.heap.size ≤ g)
    (hl : ∀ x ∈ L, ∃ f ∈ D.files, f.blk = x.blk) : DiskIn (w1.setCell ⟨p, 3, none⟩ wv') p mb wv' { D with waits := L } := by
  have e1 : ∀ b, b < w.heap.size → wv.ownBlock ≠ some b → w1.heap[b]? = w.heap[b]? := fun b hb hn => k.block b hb hn
  have hp : w1.heap[p]? = some (.cells (diskCells D mb wv) 76 (0, 0)) := (e1 p (heap_lt h.obj) h.p_ne_row).trans h.obj
  refine ⟨?_, ?_, ?_, ?_, h.blks, hl⟩
  · rw [heap_set hp]; rfl
  · exact (h.map.same (e1 mb h.map.lt h.mb_ne_row)).same (heap_set_other h.p_ne_mb.symm _ _)
  · intro f hf
    rw [heap_set_other (h.p_ne_file hf), e1 _ (heap_lt (h.files f hf)) (h.file_ne_row hf)]; exact h.files f hf
  · refine row_same r (fun g hg => heap_set_other (fun e => ?_) _ _)
    subst e
    rcases o _ hg with h1 | h1
    · exact h.p_ne_row h1
    · have := heap_lt h.obj; omega

theorem turn_same {n : ByteArray} {g : FileS → FileS} (hg : ∀ x, (g x).name = x.name ∧ (g x).blk = x.blk) : (D.turn n g).files.map encF = D.files.map encF ∧ (D.turn n g).files.map (·.blk) = D.files.map (·.blk) := by
  unfold DiskS.turn
  simp only [List.map_map]
  constructor <;> apply List.map_congr_left <;> intro x _ <;> simp only [Function.comp] <;> split <;> simp [encF, hg]
/-- One file's bytes turn. -/
theorem DiskIn.fileTo (h : DiskIn w p mb wv D) {n : ByteArray} {f : FileS} (hf : D.find n = some f) (k : Keeps (· = f.blk) w w1) {g : FileS → FileS} (hg : ∀ x, (g x).name = x.name ∧ (g x).blk = x.blk)
    (hc : w1.heap[f.blk]? = some (.cells #[.string (g f).image, .string (g f).now] 80 (0, 0))) : DiskIn w1 p mb wv (D.turn n g) := by
  obtain ⟨hm, hn⟩ := find_some hf
  have e1 : ∀ b, b < w.heap.size → b ≠ f.blk → w1.heap[b]? = w.heap[b]? := fun b hb hn => k.block b hb hn
  refine ⟨?_, ?_, ?_, ?_, by rw [(turn_same hg).2]; exact h.blks, ?_⟩
  · exact (e1 p (heap_lt h.obj) (h.p_ne_file hm).symm).trans h.obj
  · rw [(turn_same hg).1]; exact h.map.same (e1 mb h.map.lt (h.mb_ne_file hm).symm)
  · intro x hx
    unfold DiskS.turn at hx
    obtain ⟨y, hy, rfl⟩ := List.mem_map.1 hx
    by_cases hyn : y.name = n
    · have : y = f := nodup_inj h.names hy hm (by rw [hyn, hn])
      subst this
      rw [if_pos hyn, (hg y).2]; exact hc
    · rw [if_neg hyn]
      have hb : y.blk ≠ f.blk := fun e => hyn (by rw [nodup_inj h.blks hy hm e, hn])
      exact (e1 _ (heap_lt (h.files y hy)) hb).trans (h.files y hy)
  · exact row_same h.waits (fun b hb => e1 b (h.waits.lt b hb).2 (fun e => h.file_ne_row hm (by rw [hb, e])))
  · intro x hx
    obtain ⟨y, hy, he⟩ := h.live x hx
    have : y.blk ∈ (D.turn n g).files.map (·.blk) := by rw [(turn_same hg).2]; exact List.mem_map.2 ⟨y, hy, rfl⟩
    obtain ⟨z, hz, hze⟩ := List.mem_map.1 this
    exact ⟨z, hz, hze.trans he⟩
theorem DiskIn.plain (h : DiskIn w p mb wv D) {f : FileS} (hf : f ∈ D.files) : Plain w f.blk := ⟨_, _, h.files f hf⟩
theorem DiskIn.plainW (h : DiskIn w p mb wv D) : ∀ x ∈ D.waits, Plain w x.blk := fun x hx => by
  obtain ⟨f, hf, he⟩ := h.live x hx; rw [← he]; exact h.plain hf

theorem row_slice {n base size : Nat} {xs : List Value} {e : TypeId} (h : w.ownsRow base e size wv n xs) : ∃ a n c, wv = .slice a n c := by
  rcases h.2 with ⟨rfl, _⟩ | ⟨g, cap, cur, rfl, _⟩
  · exact ⟨_, _, _, rfl⟩
  · exact ⟨_, _, _, rfl⟩
/-- A call's slice of names, apart from the disk. -/
def Apart (v : Value) (F : Nat → Prop) : Prop := ∀ a n c, v = .slice (some a) n c → 0 < n → ¬ F a.block

def LastDone (p : Nat) (D : DiskS) (F : Nat → Prop) (w : World) (e : Ending) (w' : World) : Prop := e = .returned (.tuple #[]) ∧ DiskAt w' p D F ∧ Keeps F w w'

theorem last_foot (n : ByteArray) : ((D.last n).files.map (·.blk)) = D.files.map (·.blk) := by
  unfold DiskS.last
  cases D.find n with
  | none => rfl
  | some f => exact (turn_same (D := D) (n := n) (g := fun f => { f with image := f.now }) (fun x => ⟨rfl, rfl⟩)).2
theorem last_has (n m : ByteArray) : (D.last n).has m = D.has m := by
  unfold DiskS.has DiskS.find
  have : ∀ l : List FileS, ∀ g : FileS → FileS, (∀ x, (g x).name = x.name) → ((l.map g).find? fun f => decide (f.name = m)).isSome = (l.find? fun f => decide (f.name = m)).isSome := by
    intro l g hg
    induction l with
    | nil => rfl
    | cons x l ih => simp only [List.map_cons, List.find?_cons, hg]; split <;> simp_all
  unfold DiskS.last
  cases D.find n with
  | none => rfl
  | some f => 
    simp only [DiskS.without, DiskS.turn]
    exact this _ _ (fun x => by split <;> rfl)
theorem last_waits (n : ByteArray) : (D.last n).waits.length ≤ D.waits.length := by
  unfold DiskS.last
  cases D.find n with
  | none => exact Nat.le_refl _
  | some f => exact List.length_filter_le _ _
theorem last_snoc (l : List ByteArray) (k : Nat) (hk : k < l.length) : (l.take (k + 1)).foldl DiskS.last D = ((l.take k).foldl DiskS.last D).last (l.getD k ByteArray.empty) := by
  rw [List.take_succ_eq_append_getElem hk, List.foldl_append]; simp [List.getD_eq_getElem?_getD, List.getElem?_eq_getElem hk]

theorem last_some {n : ByteArray} {f : FileS} (hf : D.find n = some f) : D.last n = { D.turn n (fun f => { f with image := f.now }) with waits := keepW f.blk D.waits } := by
  unfold DiskS.last; rw [hf]; rfl
theorem DiskIn.lastFile (h : DiskIn w p mb wv D) {n : ByteArray} {f : FileS} (hf : D.find n = some f) (m : Nat) (hm : w.heap.size = m) :
    DiskIn (((w.setCell ⟨f.blk, 0, none⟩ (.string f.now)).alloc (.cells #[ptrTo f.blk] 77)).drew) p mb wv (D.turn n fun f => { f with image := f.now }) := by
  have h1 : DiskIn (w.setCell ⟨f.blk, 0, none⟩ (.string f.now)) p mb wv (D.turn n fun f => { f with image := f.now }) :=
    h.fileTo hf ((Keeps.refl (· = f.blk) w).setCell (p := ⟨f.blk, 0, none⟩) (.inl rfl) _) (fun _ => ⟨rfl, rfl⟩) (heap_set (h.files f (find_some hf).1) 0 _)
  exact h1.calm (((Calm.refl _).alloc _).drew)

set_option maxRecDepth 100000 in
set_option maxHeartbeats 4000000 in
theorem lasts_any (v : Value) (l : List ByteArray) (w : World) (h : DiskAt w p D F) (hv : StrsAt w v l) (hap : Apart v F) (hl : l.length ≤ 4294967296) (hhas : ∀ n ∈ l, D.has n = true) (hwl : D.waits.length ≤ 1000000) :
    Calls Try.prog 39 #[ptrTo p, v] w (LastDone p (l.foldl DiskS.last D) F w) := by
  obtain ⟨a, cap, rfl, hc⟩ := hv.uni
  have Hc := box hc
  have H := box h
  have Hhas := box hhas
  have Hap := box hap
  clear hc hv h hhas hap
  go_enter Try.func39, Try.ntmps39
  go_wp2
  go_loopw [9] (fun i wr => ∃ k : Nat, k ≤ l.length ∧ i = .int .i64 k ∧ DiskAt wr p ((l.take k).foldl DiskS.last D) F ∧ Keeps F w wr ∧ (∀ m, ((l.take k).foldl DiskS.last D).has m = D.has m) ∧ ((l.take k).foldl DiskS.last D).waits.length ≤ D.waits.length) (fun i _ => l.length - (intOf i).toNat)
  case atStart => exact ⟨0, Nat.zero_le _, rfl, H.out, .refl _ _, fun _ => rfl, Nat.le_refl _⟩
  case round =>
    obtain ⟨k, hk, rfl, hdisk, hkeep, hh, hw⟩ := hrel
    by_cases hlt : k < l.length
    · obtain ⟨b, off, rfl, hbl, hcell⟩ := Hc.out k hlt
      have hsn := box (last_snoc (D := D) l k hlt)
      have hin := box (show D.has (l.getD k ByteArray.empty) = true from Hhas.out _ (by rw [List.getD_eq_getElem?_getD, List.getElem?_eq_getElem hlt]; exact List.getElem_mem _))
      obtain ⟨s, hs⟩ : ∃ s, l.getD k ByteArray.empty = s := ⟨_, rfl⟩
      obtain ⟨E, hE⟩ : ∃ E, (l.take k).foldl DiskS.last D = E := ⟨_, rfl⟩
      rw [hs] at hcell hsn hin
      rw [hE] at hsn hdisk hh hw
      clear hs hE
      have hcw : wr.cell? ⟨b, off + k, none⟩ = some (.string s) := by
        simp only [World.cell?] at hcell ⊢
        rw [hkeep.block b hbl (Hap.out _ _ _ rfl (by omega))]; exact hcell
      clear hcell
      obtain ⟨f, hf, hp⟩ := has_some (D := E) (n := s) (by rw [hh]; exact hin.out)
      obtain ⟨mb, wv, hD, rfl⟩ := hdisk
      obtain ⟨c0, c1, c2, c3, c4⟩ := hD.cells
      have hlook := hD.look s
      rw [hp] at hlook
      obtain ⟨d0, d1, e0, e1⟩ := hD.file hf
      have hfl : f.blk < wr.heap.size := heap_lt (hD.files f (find_some hf).1)
      have hpl : p < wr.heap.size := heap_lt hD.obj
      have HD := box hD
      have Hf := box hf
      have Hkeep := box hkeep
      have Hh := box hh
      have Hw := box hw
      clear hkeep hh hw hp hD hf hin
      go_wp2_with fail
      go_region
      go_wp2_with fail
      have hT := HD.out.lastFile Hf.out wr.heap.size rfl
      have hk1 : Keeps (foot p mb wv E) w (((wr.setCell ⟨f.blk, 0, none⟩ (.string f.now)).alloc (.cells #[ptrTo f.blk] 77)).drew) := ((Hkeep.out.setCell (p := ⟨f.blk, 0, none⟩) (.inl (.inr (.inr (.inr (List.mem_map.2 ⟨f, (find_some Hf.out).1, rfl⟩))))) _).alloc _).drew
      have hfbc : (((wr.setCell ⟨f.blk, 0, none⟩ (.string f.now)).alloc (.cells #[ptrTo f.blk] 77)).drew).heap[wr.heap.size]? = some (.cells #[ptrTo f.blk] 77 (0, 0)) := by
        have := heap_new (wr.setCell ⟨f.blk, 0, none⟩ (.string f.now)) (.cells #[ptrTo f.blk] 77)
        rwa [show (wr.setCell ⟨f.blk, 0, none⟩ (.string f.now)).heap.size = wr.heap.size by simp [World.setCell]] at this
      generalize ((wr.setCell ⟨f.blk, 0, none⟩ (.string f.now)).alloc (.cells #[ptrTo f.blk] 77)).drew = W2 at *
      have hfin : f ∈ E.files := (find_some Hf.out).1
      refine (DeleteFunc_any _ wr.heap.size f.blk lasts_fn wv E.waits W2 hT.waits (cell_of hfbc 0) (by
          have := hT.plain (f := (fun f : FileS => { f with image := f.now }) f) (by unfold DiskS.turn; exact List.mem_map.2 ⟨f, hfin, if_pos (find_some Hf.out).2⟩); exact this) hT.plainW (by have := Hw.out; omega) (fun g hg => ⟨fun e => by have := (HD.out.waits.lt g hg).2; omega, fun e => HD.out.file_ne_row hfin (by rw [hg, e]), fun x hx e => ?_⟩)).mono ?_
      · obtain ⟨y, hy, he⟩ := HD.out.live x hx
        exact HD.out.file_ne_row hy (by rw [hg, e, he])
      rintro e w2 ⟨wv', rfl, hrow, hk2, hob⟩
      obtain ⟨a', n', cap', rfl⟩ := row_slice hrow
      have hp2 : w2.heap[p]? = some (.cells (diskCells E mb wv) 76 (0, 0)) := (hk2.block p (heap_lt hT.obj) hT.p_ne_row).trans hT.obj
      have g3 := cell_of hp2 3
      have g4 := free_of hp2 3
      have hfin2 := box (hT.rowTo hk2 hrow (fun g hg => .inl (hob ▸ hg)) (fun x hx => hT.live x (List.mem_filter.1 hx).1))
      have hk3 := box ((hk1.trans' (hk2.mono (fun b _ hb => .inr (.inr (.inl hb))))).setCell (p := ⟨p, 3, none⟩) (.inl (.inl rfl)) (.slice a' n' cap'))
      have hob := box hob
      clear hT hk1 hk2 hrow hfbc hp2
      go_wp2_with fail
      go_roundw
      case rel =>
        refine ⟨k + 1, by omega, by go_num, ⟨mb, .slice a' n' cap', ?_, ?_⟩, hk3.out, fun m => ?_, ?_⟩
        · rw [hsn.out, last_some Hf.out]; exact hfin2.out
        · rw [hsn.out]; unfold foot; rw [last_foot, hob.out]
        · rw [hsn.out, last_has]; exact Hh.out m
        · rw [hsn.out]; exact Nat.le_trans (last_waits _) Hw.out
      case measure => simp [intOf]; omega
    · obtain rfl : k = l.length := by omega
      rw [List.take_length] at hdisk
      have Hdisk := box hdisk
      have Hkeep := box hkeep
      clear hdisk hkeep hh hw
      go_wp2
      go_end0
      exact ⟨rfl, Hdisk.out, Hkeep.out⟩

end
end Go.Proofs.Ytbmhjojlbmbpkaa.dk
