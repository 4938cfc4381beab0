/- Layer 10: how queues stand: entries' map, their rows, one disk. -/
import Derived.Test.YtdepejneliacpaaGreatDoorRows
import Derived.WalkKit
import Derived.ProofKit
import Derived.OpenShut
import Derived.Handy
import Derived.Deep.LoopGhost
import Derived.Lib.Hide
import Derived.Lib.Strings
import Derived.SizedLaws
import Derived.Maps.Own
import Derived.Maps.OwnOps
import Derived.Maps.OwnSet
import Derived.Maps.RangeWalk
import Derived.Deep.QuietTactic
import Derived.BigQuiet
import Derived.Deep.RegionHeld3
import Derived.Lib.ConvBytes
import Derived.Lib.AppendZeros
import Derived.Lib.AppendZerosOnto
import Derived.Lib.LazyBuf
import Derived.Shelf.Abstract
import Derived.LaidEql
import Derived.Lib.SliceRun
import Derived.StillTailTactics
import Derived.Deep.Slices
import Derived.Lib.Atoi
import Derived.Lib.ItoaNum
import Derived.Lib.SlTrimSet
import Derived.Shelf.SlIter.Nil
import Derived.Ground.GgzProg
import Derived.Shelf.SortM.Plain
import Derived.Shelf.SortM.SortNone
import Derived.Ground.SlgmProg
import Derived.Shelf.SlicesE.DeleteFunc
import Derived.Ground.SlgfProg
import Derived.Test.YtdepejneliacpaaGreatDoorProg
import Derived.Shelf.Strings.Builder1
import Derived.Shelf.Strings.Builder2
import Derived.Shelf.Strings.Trim
import Derived.Shelf.Small.Utf8
import Derived.Shelf.Small.Bits
import Derived.Shelf.Small.Strs
import Derived.Shelf.Small.Wraps
import Derived.Shelf.Strings.BuilderF
import Derived.Shelf.Strings.BuilderK
import Derived.Shelf.Strings.Builder2Cap
import Derived.Shelf.Strconv.Atoi
import Derived.Shelf.Strconv.Itoa0
import Derived.Shelf.Strconv.Itoa1
import Derived.Shelf.LaysM
import Derived.Shelf.Strconv.Itoa2
import Derived.Shelf.Strconv.Itoa3
import Derived.Shelf.Strings.Search1
import Derived.Shelf.Sort.Plain
import Derived.Shelf.GgClosure.StringsIndexFunc
import Derived.Ground.GgwProg
import Derived.Shelf.GgClosure.StringsIndexFuncTop
import Derived.Shelf.GgClosure.StringsRunes
import Derived.Shelf.Strings.Prefix
import Derived.Shelf.Strings.Runes
import Derived.Shelf.Strings.AsciiSet
import Derived.Shelf.Bits.Mul64
import Derived.Shelf.Strings.Repeat
import Derived.Shelf.Unicode.DecodeSlow
import Derived.Shelf.Unicode.DecodeAny
import Derived.Shelf.Unicode.DecodeLast
import Derived.Shelf.Strings.BuilderCap
import Derived.Shelf.Slices.Equal
import Derived.Ground.Names2Prog
import Derived.Shelf.Slices.Clone
import Derived.Shelf.Slices.CompactS
import Derived.Shelf.Slices.SearchI
import Derived.Shelf.Slices.Cells
import Derived.Shelf.Slices.In.SortNone
import Derived.Shelf.Slices.Empties2
import Derived.Ground.SlgnProg
import Derived.Shelf.SlicesE.Equal
import Derived.Shelf.SlicesE.Compact
import Derived.Shelf.SlicesE.Clone
import Derived.Shelf.SlicesE.IndexFunc
import Derived.Shelf.Strings.SlTrimAscii
import Derived.Lib.Repeat
import Derived.Lib.LaidTab
import Derived.Deep.RegionLaw
import Derived.Deep.RegionWith
import Derived.Lib.AtoiErrMem
import Derived.Laws.MakeOwn
import Derived.Lib.Builder
import Derived.Lib.AppendStr
import Derived.Lib.DecodeN
import Derived.Maps.Keyed
import Derived.DeepKeys4
import Derived.Test.YtdepejneliacpaaGreatDoorPk25
namespace Go.Proofs.YtdepejneliacpaaGreatDoor.cq
open Go.ChangeShapes Go.WideShapes Go.ChangeAt Go.RowKit Go.ChangeMaps
open Go.Proofs.YtdepejneliacpaaGreatDoor.dk Go.Proofs.YtdepejneliacpaaGreatDoor.sg

/-! ### Keys -/
def wkey (t : ByteArray) (n : Int) : Value := .agg #[.string t, .int .i64 n]
theorem wkey_inj {t t' : ByteArray} {n n' : Int} (h : wkey t n = wkey t' n') : t = t' ∧ n = n' := by
  unfold wkey at h
  simp at h
  exact h
theorem laidOut : laidOutB Tryz.prog = true := by kernel_rfl
theorem which_row : (119 : TypeId) < Tryz.prog.types.size := of_decide_eq_true (by kernel_rfl)
theorem which_wide : (match Tryz.prog.underlying 119 with | some (.array _ _) | some (.struct _) => true | _ => false) = true := by kernel_rfl
theorem which_deep : Tryz.prog.keyTypeAt 2 119 = true := by kernel_rfl
set_option maxRecDepth 100000 in
theorem which_law : Go.Maps.Keyed Tryz.prog 119 := .of_law (deep_law_laid laidOut (m := 2) (by decide) which_row which_deep which_wide)
theorem which_key : Tryz.prog.keyType 119 = true := by kernel_rfl
theorem succ_of_lt {a n : Nat} (h : a < n) : ∃ m, n = m + 1 := ⟨n - 1, by omega⟩
theorem types_succ : ∃ m, Tryz.prog.types.size = m + 1 := succ_of_lt which_row
/-- A text and a number, as a struct's cells, read as a key. -/
theorem key_pair {P : Program} {T S I : TypeId} {fs : Array Field} {m : Nat} (hu : P.underlying T = some (.struct fs)) (hS : P.underlying S = some .string) (hI : P.underlying I = some (.int .i64)) (hfs : fs.toList.map (fun f => (f.name != "_", f.type, f.offset)) = [(true, S, 0), (true, I, 1)])
    (cT : P.cellsOf T = 2) (cS : P.cellsOf S = 1) (cI : P.cellsOf I = 1) (hk : P.keyType T = true) (hm : P.types.size = m + 1) {t : ByteArray} {n : Int} (ht : t.size ≤ maxLen) (hn : (Lit.int .i64 n).wf = true) : ∃ l, keyOf P T (.agg #[.string t, .int .i64 n]) = some l := by
  obtain ⟨L⟩ := fs
  simp only at hfs
  rcases L with _ | ⟨f0, L⟩
  · simp at hfs
  rcases L with _ | ⟨f1, L⟩
  · simp at hfs
  rcases L with _ | ⟨f2, L⟩
  · simp only [List.map_cons, List.map_nil, List.cons.injEq, Prod.mk.injEq, and_true] at hfs
    obtain ⟨⟨a1, a2, a3⟩, b1, b2, b3⟩ := hfs
    have hf : (Value.agg #[.string t, .int .i64 n]).formed P T = true := by simp [Value.formed, hu, cT]
    unfold keyOf
    simp [hu, hk, hf, hm, Program.keyLits, Value.cells, cT, cS, cI, hS, hI, ht, hn, a2, a3, b2, b3]
    simp at a1 b1
    simp [a1, b1]
  · simp at hfs
theorem wkey_of {t : ByteArray} {n : Int} (ht : t.size ≤ maxLen) (hn : (Lit.int .i64 n).wf = true) : ∃ l, keyOf Tryz.prog 119 (wkey t n) = some l := by
  obtain ⟨m, hm⟩ := types_succ
  exact key_pair Tryz.underlying119 Tryz.underlying9 Tryz.underlying3 (by kernel_rfl) (by kernel_rfl) (by kernel_rfl) (by kernel_rfl) which_key hm ht hn

/-! ### What stands -/
/-- A queue: what the laws see; its block; its row's block, and places. -/
structure Qe where
  q : QS
  x : Nat
  r : Nat
  R : RowS
  v : Value
def Qe.cells (e : Qe) : Array Value := #[ptrTo e.r, .int .i64 (e.q.base : Int), .int .i64 (e.q.least : Int)]
def Qe.key (e : Qe) : Value := wkey e.q.t (e.q.n : Int)
structure QOk (W : World) (p n c m : Nat) (D : DiskS) (F : Nat → Prop) (w : World) (e : Qe) : Prop where
  lw : Lw W e.r p n c m D e.R (e.q.bytes e.R.start) F e.v w
  obj : w.heap[e.x]? = some (.cells e.cells 126 (0, 0))
  rowed : Rowed e.R e.q
  xW : W.heap.size ≤ e.x
def Qe.Off (a b : Qe) : Prop := (a.x ≠ b.x ∧ a.r ≠ b.r ∧ ∀ g, a.v.ownBlock = some g → b.v.ownBlock ≠ some g) ∧ ¬ (a.q.t = b.q.t ∧ a.q.n = b.q.n)
theorem Qe.Off.symm {a b : Qe} (h : a.Off b) : b.Off a := ⟨⟨h.1.1.symm, h.1.2.1.symm, fun g e1 e2 => h.1.2.2 g e2 e1⟩, fun e => h.2 ⟨e.1.symm, e.2.symm⟩⟩
structure CqAt (B : ByteArray → Option ByteArray) (W : World) (g p mb n c m : Nat) (D : DiskS) (F : Nat → Prop) (es : List Qe) (w : World) : Prop where
  obj : w.heap[g]? = some (.cells #[ptrTo p, .map (some mb)] 108 (0, 0))
  map : MapOf Tryz.prog 119 w mb (es.map fun e => (e.key, ptrTo e.x))
  disk : DiskOk w p D F n
  able : Able D c m
  tab : Tab W
  calm : Calm W w
  fW : ∀ b, F b → W.heap.size ≤ b
  mF : ¬ F mb
  gW : W.heap.size ≤ g
  mW : W.heap.size ≤ mb
  rows : ∀ e ∈ es, QOk W p n c m D F w e
  off : es.Pairwise Qe.Off
  sole : ∀ s, D.has s = true → Lib.hasPrefix s.data.toList qN.data.toList = true → ∃ e ∈ es, ∃ k, k < 100000000 ∧ s = nameB (headQ e.q.t e.q.n) k
  out : ∀ s, Lib.hasPrefix s.data.toList qN.data.toList = false → D.bytes s = B s
/-- Blocks of another type than those of a disk, a row, queues stay as they are. -/
def OthQ (T : TypeId) : Prop := T ≠ 114 ∧ T ≠ 165 ∧ T ≠ 138 ∧ T ≠ 155 ∧ T ≠ 3
def KeptQ (w w' : World) : Prop := ∀ (T : TypeId), OthQ T → T ≠ 126 → ∀ (g : Nat) (cs : Array Value), w.heap[g]? = some (.cells cs T (0, 0)) → w'.heap[g]? = some (.cells cs T (0, 0))
theorem KeptQ.calm {w w' : World} (h : Calm w w') : KeptQ w w' := fun _ _ _ _ _ hb => heap_calm h hb
theorem KeptQ.trans {a b c : World} (h : KeptQ a b) (k : KeptQ b c) : KeptQ a c := fun T hT hq g cs hb => k T hT hq g cs (h T hT hq g cs hb)
theorem oth_queue : OthQ 126 := by unfold OthQ; decide
theorem oth_queues : OthQ 108 := by unfold OthQ; decide
section
variable {B : ByteArray → Option ByteArray} {W w w' : World} {g p mb n c m n' m' : Nat} {D D' : DiskS} {R R' : RowS} {b' : List UInt8} {F F' : Nat → Prop} {v v' : Value} {es l1 l2 : List Qe} {e e1 : Qe} {T : TypeId} {cs : Array Value}
theorem othq_disk {x : Nat} (hT : OthQ T) (h : w.heap[x]? = some (.cells cs T (0, 0))) (hd : DiskOk w p D F n) : ¬ F x := fun hf => by
  obtain ⟨t1, t2, t3, _⟩ := hT
  obtain ⟨mb, wv, h1, rfl⟩ := hd.lies
  rcases hf with rfl | rfl | hf | hf
  · rw [h1.obj] at h; simp only [Option.some.injEq, Obj.cells.injEq] at h; exact t1 h.2.1.symm
  · obtain ⟨es, c, hm, _⟩ := h1.map; rw [hm] at h; cases h
  · obtain ⟨c, hc2⟩ := own_row h1.waits hf; rw [hc2] at h; simp only [Option.some.injEq, Obj.cells.injEq] at h; exact t2 h.2.1.symm
  · obtain ⟨f, hf', rfl⟩ := List.mem_map.1 hf
    rw [h1.files f hf'] at h; simp only [Option.some.injEq, Obj.cells.injEq] at h; exact t3 h.2.1.symm
theorem othq_row {x r : Nat} (hT : OthQ T) (h : w.heap[x]? = some (.cells cs T (0, 0))) (hr : RowAt w r p R v) : x ≠ r ∧ v.ownBlock ≠ some x := by
  constructor
  · rintro rfl
    rw [hr.at_] at h; simp only [Option.some.injEq, Obj.cells.injEq] at h; exact hT.2.2.2.1 h.2.1.symm
  · intro e
    obtain ⟨c, hc2⟩ := own_row hr.row e; rw [hc2] at h; simp only [Option.some.injEq, Obj.cells.injEq] at h; exact hT.2.2.2.2 h.2.1.symm
theorem map_row {x r : Nat} {k : TypeId} {l : List (Value × Value)} (h : MapOf Tryz.prog k w x l) (hr : RowAt w r p R v) : x ≠ r ∧ v.ownBlock ≠ some x := by
  obtain ⟨es, cl, h, _⟩ := h
  constructor
  · rintro rfl
    rw [hr.at_] at h; cases h
  · intro e
    obtain ⟨c, hc2⟩ := own_row hr.row e; rw [hc2] at h; cases h
theorem map_cells {x y : Nat} {k : TypeId} {l : List (Value × Value)} (h : MapOf Tryz.prog k w x l) (hy : w.heap[y]? = some (.cells cs T (0, 0))) : y ≠ x := by
  obtain ⟨es, cl, h, _⟩ := h
  rintro rfl
  rw [h] at hy; cases hy
theorem step_keep {x r : Nat} (hT : OthQ T) (h : w.heap[x]? = some (.cells cs T (0, 0))) (hs : SegAt W w r p n D R F v) (hS : SegStep w r F v w' F' v') : w'.heap[x]? = some (.cells cs T (0, 0)) := by
  obtain ⟨h1, h2⟩ := othq_row hT h hs.row
  rw [hS.keeps.block x (heap_lt h) (fun e => by
    rcases e with e | e | e
    · exact othq_disk hT h hs.disk e
    · exact h1 e
    · exact h2 e)]
  exact h
theorem kept_step {r : Nat} (hs : SegAt W w r p n D R F v) (hS : SegStep w r F v w' F' v') : KeptQ w w' := fun _ hT _ _ _ h => step_keep hT h hs hS
/-- A step on one queue's row leaves another queue. -/
theorem QOk.other (h1 : QOk W p n c m D F w e1) (h : QOk W p n c m D F w e) (ho : e1.Off e) (hL : Lw W e.r p n' c m' D' R' b' F' v' w') (hT : SegStep w e.r F e.v w' F' v') (hO : Only D D' e.R.head) : QOk W p n' c m' D' F' w' e1 := by
  have hne : e1.R.head ≠ e.R.head := by
    rw [h1.rowed.head, h.rowed.head]
    intro he
    exact ho.2 (headQ_inj h1.rowed.n h.rowed.n he)
  have hrow : RowAt w' e1.r p e1.R e1.v := h1.lw.seg.row.keep hT.keeps (fun e => by
    rcases e with e | e | e
    · exact row_apart h1.lw.seg.disk h1.lw.seg.row.at_ e
    · exact ho.1.2.1 e
    · exact row_row h.lw.seg.row h1.lw.seg.row e) (fun g hg e => by
    rcases e with e | e | e
    · exact places_apart h1.lw.seg.disk h1.lw.seg.row hg e
    · exact row_row h1.lw.seg.row h.lw.seg.row (e ▸ hg)
    · exact ho.1.2.2 g hg e)
  exact ⟨⟨⟨hL.seg.disk, hrow, h1.lw.seg.tab, hL.seg.calm, hL.seg.fW, h1.lw.seg.rW, h1.lw.seg.vW⟩, h1.lw.holds.other hO hne, hL.able⟩, step_keep oth_queue h1.obj h.lw.seg hT, h1.rowed, h1.xW⟩
/-- What is turned elsewhere leaves a queue. -/
theorem QOk.keep {G : Nat → Prop} (h : QOk W p n c m D F w e) (k : Keeps G w w') (hF : ∀ b, F b → ¬ G b) (hr : ¬ G e.r) (hv : ∀ g, e.v.ownBlock = some g → ¬ G g) (hx : ¬ G e.x) (hc : Calm W w') : QOk W p n c m D F w' e :=
  ⟨⟨⟨h.lw.seg.disk.keep k hF, h.lw.seg.row.keep k hr hv, h.lw.seg.tab, hc, h.lw.seg.fW, h.lw.seg.rW, h.lw.seg.vW⟩, h.lw.holds, h.lw.able⟩, (k.block _ (heap_lt h.obj) hx).trans h.obj, h.rowed, h.xW⟩
theorem QOk.calm (h : QOk W p n c m D F w e) (hc : Calm w w') : QOk W p n c m D F w' e := ⟨h.lw.calm hc, heap_calm hc h.obj, h.rowed, h.xW⟩
theorem CqAt.cale (h : CqAt B W g p mb n c m D F es w) (hc : Calm w w') : CqAt B W g p mb n c m D F es w' :=
  ⟨heap_calm hc h.obj, h.map.calm hc, h.disk.calm hc, h.able, h.tab, h.calm.trans hc, h.fW, h.mF, h.gW, h.mW, fun e he => (h.rows e he).calm hc, h.off, h.sole, h.out⟩
theorem CqAt.key_off (h : CqAt B W g p mb n c m D F (l1 ++ e :: l2) w) : (∀ a ∈ l1, a.Off e) ∧ (∀ a ∈ l2, e.Off a) ∧ l1.Pairwise Qe.Off ∧ l2.Pairwise Qe.Off ∧ ∀ a ∈ l1, ∀ b ∈ l2, a.Off b := by
  have h0 := List.pairwise_append.1 h.off
  have h1 := List.pairwise_cons.1 h0.2.1
  exact ⟨fun a ha => h0.2.2 a ha e (List.mem_cons_self ..), h1.1, h0.1, h1.2, fun a ha b hb => h0.2.2 a ha b (List.mem_cons_of_mem _ hb)⟩
/-- One of them has turned. -/
theorem off_put {e' : Qe} (h1 : l1.Pairwise Qe.Off) (h2 : l2.Pairwise Qe.Off) (h3 : ∀ a ∈ l1, a.Off e') (h4 : ∀ a ∈ l2, e'.Off a) (h5 : ∀ a ∈ l1, ∀ b ∈ l2, a.Off b) : (l1 ++ e' :: l2).Pairwise Qe.Off := by
  refine List.pairwise_append.2 ⟨h1, List.pairwise_cons.2 ⟨h4, h2⟩, fun a ha b hb => ?_⟩
  rcases List.mem_cons.1 hb with rfl | hb
  · exact h3 a ha
  · exact h5 a ha b hb
/-- A call on one queue's row. -/
theorem CqAt.next (h : CqAt B W g p mb n c m D F (l1 ++ e :: l2) w) {q' : QS} (hx : LwNext W e.r p n' c m' D' R' (q'.bytes R'.start) w F e.v D w') (hr : Rowed R' q') (hh : R'.head = e.R.head) (e1 : q'.t = e.q.t) (e2 : q'.n = e.q.n) (e3 : q'.base = e.q.base) (e4 : q'.least = e.q.least) :
    ∃ F' v', CqAt B W g p mb n' c m' D' F' (l1 ++ ⟨q', e.x, e.r, R', v'⟩ :: l2) w' ∧ KeptQ w w' := by
  obtain ⟨F', v', hL, hT, hO⟩ := hx
  rw [hh] at hO
  have he := h.rows e (List.mem_append_right _ (List.mem_cons_self ..))
  obtain ⟨o1, o2, o3, o4, o5⟩ := h.key_off
  have hoth : ∀ a, a ∈ l1 ∨ a ∈ l2 → QOk W p n' c m' D' F' w' a ∧ a.Off ⟨q', e.x, e.r, R', v'⟩ := fun a ha => by
    have ha2 : a.Off e := by
      rcases ha with ha | ha
      · exact o1 a ha
      · exact (o2 a ha).symm
    have ha3 := h.rows a (List.mem_append.2 (ha.imp id (List.mem_cons_of_mem _)))
    refine ⟨ha3.other he ha2 hL hT hO, ⟨⟨ha2.1.1, ha2.1.2.1, fun b hb hb2 => ?_⟩, fun hk => ha2.2 ⟨hk.1.trans e1, hk.2.trans e2⟩⟩⟩
    rcases hT.row b hb2 with h1 | h1
    · exact ha2.1.2.2 b hb h1
    · have := (ha3.lw.seg.row.row.lt b hb).2; omega
  have hmr := map_row h.map he.lw.seg.row
  refine ⟨F', v', ⟨step_keep oth_queues h.obj he.lw.seg hT, ?_, hL.seg.disk, hL.able, h.tab, hL.seg.calm, hL.seg.fW, fun hf => ?_, h.gW, h.mW, fun a ha => ?_, off_put o3 o4 (fun a ha => (hoth a (.inl ha)).2) (fun a ha => (hoth a (.inr ha)).2.symm) o5, fun s hs hp => ?_, fun s hs => (hO s (fun k hk x => by rw [x, he.rowed.head, headQ_pre] at hs; cases hs)).trans (h.out s hs)⟩, kept_step he.lw.seg hT⟩
  · have := h.map.same (w' := w') (hT.keeps.block _ h.map.lt (fun x => by
      rcases x with x | x | x
      · exact h.mF x
      · exact hmr.1 x
      · exact hmr.2 x))
    have ek : (⟨q', e.x, e.r, R', v'⟩ : Qe).key = e.key := by unfold Qe.key; rw [e1, e2]
    simpa [ek] using this
  · rcases hT.foot mb hf with h1 | h1
    · exact h.mF h1
    · have := h.map.lt; omega
  · rcases List.mem_append.1 ha with ha | ha
    · exact (hoth a (.inl ha)).1
    rcases List.mem_cons.1 ha with rfl | ha
    · refine ⟨hL, ?_, hr, he.xW⟩
      have := step_keep oth_queue he.obj he.lw.seg hT
      unfold Qe.cells at this ⊢
      rw [e3, e4]
      exact this
    · exact (hoth a (.inr ha)).1
  · by_cases hk : ∃ k, k < 100000000 ∧ s = nameB e.R.head k
    · obtain ⟨k, hk, rfl⟩ := hk
      exact ⟨_, List.mem_append_right _ (List.mem_cons_self ..), k, hk, by rw [he.rowed.head]; show _ = nameB (headQ q'.t q'.n) k; rw [e1, e2]⟩
    · have : D.has s = true := by
        rw [bytes_has, ← hO s (fun k hk1 hk2 => hk ⟨k, hk1, hk2⟩), ← bytes_has]; exact hs
      obtain ⟨a, ha, k9, hk9, rfl⟩ := h.sole s this hp
      rcases List.mem_append.1 ha with ha | ha
      · exact ⟨a, List.mem_append_left _ ha, k9, hk9, rfl⟩
      rcases List.mem_cons.1 ha with rfl | ha
      · exact ⟨_, List.mem_append_right _ (List.mem_cons_self ..), k9, hk9, by rw [e1, e2]⟩
      · exact ⟨a, List.mem_append_right _ (List.mem_cons_of_mem _ ha), k9, hk9, rfl⟩
/-- A queue's block has turned: its least position. -/
theorem CqAt.put (h : CqAt B W g p mb n c m D F (l1 ++ e :: l2) w) {k : Nat} (h1 : e.q.least ≤ k) (h2 : k ≤ e.q.base + e.q.l.length) :
    CqAt B W g p mb n c m D F (l1 ++ { e with q := e.q.from_ k } :: l2) (w.setCell ⟨e.x, 2, none⟩ (.int .i64 (k : Int))) ∧ KeptQ w (w.setCell ⟨e.x, 2, none⟩ (.int .i64 (k : Int))) := by
  have he := h.rows e (List.mem_append_right _ (List.mem_cons_self ..))
  obtain ⟨o1, o2, o3, o4, o5⟩ := h.key_off
  have hk : Keeps (fun b => b = e.x) w (w.setCell ⟨e.x, 2, none⟩ (.int .i64 (k : Int))) := (Keeps.refl (fun b => b = e.x) w).setCell (p := ⟨e.x, 2, none⟩) (.inl rfl) _
  have hc : Calm W (w.setCell ⟨e.x, 2, none⟩ (.int .i64 (k : Int))) := Below.trans h.calm (hk.below h.calm.size (fun b hb => by rw [hb]; exact he.xW))
  have hF : ∀ b, F b → b ≠ e.x := fun b hb hx => othq_disk oth_queue he.obj h.disk (hx ▸ hb)
  have hset := heap_set he.obj 2 (.int .i64 (k : Int))
  have hrest : ∀ a, a ∈ l1 ∨ a ∈ l2 → QOk W p n c m D F (w.setCell ⟨e.x, 2, none⟩ (.int .i64 (k : Int))) a := fun a ha => by
    have ha2 : a.Off e := by
      rcases ha with ha | ha
      · exact o1 a ha
      · exact (o2 a ha).symm
    have ha3 := h.rows a (List.mem_append.2 (ha.imp id (List.mem_cons_of_mem _)))
    have hq := othq_row oth_queue he.obj ha3.lw.seg.row
    exact ha3.keep hk hF (fun x => hq.1 x.symm) (fun b hb x => hq.2 (x ▸ hb)) ha2.1.1 hc
  have hq := othq_row oth_queue he.obj he.lw.seg.row
  refine ⟨⟨(heap_set_other (fun x => by have h0 := h.obj; rw [x, he.obj] at h0; simp only [Option.some.injEq, Obj.cells.injEq] at h0; exact absurd h0.2.1 (by decide)) _ _).trans h.obj, ?_, h.disk.keep hk hF, h.able, h.tab, hc, h.fW, h.mF, h.gW, h.mW, fun a ha => ?_, off_put o3 o4 o1 o2 o5, fun s hs hp => ?_, h.out⟩, fun T hT hTq x cs hx => ?_⟩
  · have := h.map.same (w' := w.setCell ⟨e.x, 2, none⟩ (.int .i64 (k : Int))) (heap_set_other (fun x => map_cells h.map he.obj x.symm) _ _)
    simpa [Qe.key, QS.from_] using this
  · rcases List.mem_append.1 ha with ha | ha
    · exact hrest a (.inl ha)
    rcases List.mem_cons.1 ha with rfl | ha
    · exact ⟨⟨⟨h.disk.keep hk hF, he.lw.seg.row.keep hk (fun x => hq.1 x.symm) (fun b hb x => hq.2 (x ▸ hb)), h.tab, hc, h.fW, he.lw.seg.rW, he.lw.seg.vW⟩, he.lw.holds, he.lw.able⟩, hset, he.rowed.later h1 h2, he.xW⟩
    · exact hrest a (.inr ha)
  · obtain ⟨a, ha, k', hk', rfl⟩ := h.sole s hs hp
    rcases List.mem_append.1 ha with ha | ha
    · exact ⟨a, List.mem_append_left _ ha, k', hk', rfl⟩
    rcases List.mem_cons.1 ha with rfl | ha
    · exact ⟨_, List.mem_append_right _ (List.mem_cons_self ..), k', hk', rfl⟩
    · exact ⟨a, List.mem_append_right _ (List.mem_cons_of_mem _ ha), k', hk', rfl⟩
  · rw [heap_set_other (fun e0 => by subst e0; rw [he.obj] at hx; simp only [Option.some.injEq, Obj.cells.injEq] at hx; exact hTq hx.2.1.symm)]
    exact hx
end
end Go.Proofs.YtdepejneliacpaaGreatDoor.cq

/- Layer 10: how queues stand: a step of the disk; one more queue. -/
namespace Go.Proofs.YtdepejneliacpaaGreatDoor.cq
open Go.ChangeShapes Go.WideShapes Go.ChangeAt Go.RowKit Go.ChangeMaps
open Go.Proofs.YtdepejneliacpaaGreatDoor.dk Go.Proofs.YtdepejneliacpaaGreatDoor.sg

section
variable {B : ByteArray → Option ByteArray} {W w w' : World} {g p mb n c m n' m' : Nat} {D D' : DiskS} {R R' : RowS} {b' : List UInt8} {F F' : Nat → Prop} {v v' : Value} {es l1 l2 : List Qe} {e e1 : Qe} {T : TypeId} {cs : Array Value}
theorem CqAt.stepped (h : CqAt B W g p mb n c m D F es w) (hs : Step F w F' w') (hd : DiskOk w' p D F' n) : CqAt B W g p mb n c m D F' es w' ∧ KeptQ w w' := by
  have hc : Calm W w' := Below.trans h.calm (hs.keeps.below h.calm.size h.fW)
  have hfW : ∀ b, F' b → W.heap.size ≤ b := fun b hb => by
    rcases hs.foot b hb with h1 | h1
    · exact h.fW b h1
    · exact Nat.le_trans h.calm.size h1
  have hk : KeptQ w w' := fun T hT _ x cs hx => (hs.keeps.block x (heap_lt hx) (othq_disk hT hx h.disk)).trans hx
  refine ⟨⟨hk _ oth_queues (by decide) _ _ h.obj, h.map.same (hs.keeps.block _ h.map.lt h.mF), hd, h.able, h.tab, hc, hfW, fun hf => ?_, h.gW, h.mW, fun a ha => ?_, h.off, h.sole, h.out⟩, hk⟩
  · rcases hs.foot mb hf with h1 | h1
    · exact h.mF h1
    · have := h.map.lt; omega
  · have ha := h.rows a ha
    exact ⟨⟨⟨hd, ha.lw.seg.row.step h.disk hs, h.tab, hc, hfW, ha.lw.seg.rW, ha.lw.seg.vW⟩, ha.lw.holds, ha.lw.able⟩, (hs.keeps.block _ (heap_lt ha.obj) (othq_disk oth_queue ha.obj h.disk)).trans ha.obj, ha.rowed, ha.xW⟩
theorem CqAt.added (h : CqAt B W g p mb n c m D F es w) (he : QOk W p n c m D F w e) (hoff : ∀ a ∈ es, a.Off e) {o : Obj} (hmap : MapOf Tryz.prog 119 (setBlock w mb o) mb ((es.map fun e => (e.key, ptrTo e.x)) ++ [(e.key, ptrTo e.x)])) :
    CqAt B W g p mb n c m D F (es ++ [e]) (setBlock w mb o) ∧ KeptQ w (setBlock w mb o) := by
  have hk : Keeps (fun b => b = mb) w (setBlock w mb o) := (Keeps.refl (fun b => b = mb) w).setObj (.inl rfl) o
  have hc : Calm W (setBlock w mb o) := Below.trans h.calm (hk.below h.calm.size (fun b hb => by rw [hb]; exact h.mW))
  have hF : ∀ b, F b → ¬ b = mb := fun b hb e => h.mF (e ▸ hb)
  have hrow : ∀ a, QOk W p n c m D F w a → QOk W p n c m D F (setBlock w mb o) a := fun a ha => by
    have h1 := map_row h.map ha.lw.seg.row
    exact ha.keep hk hF (fun e => h1.1 e.symm) (fun b hb e => h1.2 (e ▸ hb)) (fun e => map_cells h.map ha.obj e) hc
  have hkept : KeptQ w (setBlock w mb o) := fun T hT _ x cs hx => (hk.block x (heap_lt hx) (fun e => map_cells h.map hx e)).trans hx
  refine ⟨⟨hkept _ oth_queues (by decide) _ _ h.obj, by rw [List.map_append]; exact hmap, h.disk.keep hk hF, h.able, h.tab, hc, h.fW, h.mF, h.gW, h.mW, fun a ha => ?_, List.pairwise_append.2 ⟨h.off, List.pairwise_singleton _ _, fun a ha b hb => by rw [List.mem_singleton] at hb; rw [hb]; exact hoff a ha⟩, fun s hs hp => ?_, h.out⟩, hkept⟩
  · rcases List.mem_append.1 ha with ha | ha
    · exact hrow a (h.rows a ha)
    · rw [List.mem_singleton] at ha; rw [ha]; exact hrow e he
  · obtain ⟨a, ha, k, hk, e⟩ := h.sole s hs hp
    exact ⟨a, List.mem_append_left _ ha, k, hk, e⟩
/-- Of a queue that isn't there no file is. -/
theorem CqAt.fresh (h : CqAt B W g p mb n c m D F es w) {t : ByteArray} {q : Nat} (hq : q < 3) (hno : ∀ e ∈ es, ¬ (e.q.t = t ∧ e.q.n = q)) : ∀ k, k < 100000000 → D.has (nameB (headQ t q) k) = false := fun k hk => by
  cases hh : D.has (nameB (headQ t q) k) with
  | false => rfl
  | true =>
    obtain ⟨a, ha, j, hj, e⟩ := h.sole _ hh (headQ_pre t q k)
    exfalso
    by_cases hne : headQ t q = headQ a.q.t a.q.n
    · have h1 := headQ_inj hq (h.rows a ha).rowed.n hne
      exact hno a ha ⟨h1.1.symm, h1.2.symm⟩
    · exact heads_apart hne e
end
end Go.Proofs.YtdepejneliacpaaGreatDoor.cq

/- Layer 10: next, at, right, of. -/
namespace Go.Proofs.YtdepejneliacpaaGreatDoor.cq
open Go.ChangeShapes Go.WideShapes Go.ChangeAt Go.RowKit Go.ChangeMaps
open Go.Proofs.YtdepejneliacpaaGreatDoor.dk Go.Proofs.YtdepejneliacpaaGreatDoor.sg Go.Proofs.YtdepejneliacpaaGreatDoor.en Go.Proofs.YtdepejneliacpaaGreatDoor.nm

section
variable {W w w' : World} {g p mb n c m r : Nat} {D : DiskS} {R : RowS} {F : Nat → Prop} {v : Value} {es : List Qe} {e : Qe}
theorem QOk.cells (h : QOk W p n c m D F w e) : w.cell? ⟨e.x, 0, none⟩ = some (ptrTo e.r) ∧ w.cell? ⟨e.x, 1, none⟩ = some (.int .i64 (e.q.base : Int)) ∧ w.cell? ⟨e.x, 2, none⟩ = some (.int .i64 (e.q.least : Int)) ∧ e.x < w.heap.size :=
  ⟨cell_of h.obj 0, cell_of h.obj 1, cell_of h.obj 2, heap_lt h.obj⟩
theorem End_quiet (w : World) (n : Nat) (h : RowAt w r p R v) : Calls Tryz.prog 85 #[ptrTo r] (w.drewN n) fun e w' => e = .returned (.int .i64 (R.fin : Int)) ∧ ∃ m, w' = w.drewN m :=
  (End_any _ (h.drewN n)).mono fun _ _ ⟨he, hm⟩ => ⟨he, n, hm.symm⟩
theorem EndNil_any (w : World) : Calls Tryz.prog 85 #[.pointer none] w fun e w' => e = .returned (.int .i64 0) ∧ w = w' := by
  go_enter Tryz.func85, Tryz.ntmps85
  go_wp2_with fail
  go_ret
  exact ⟨rfl, rfl⟩
set_option maxRecDepth 100000 in
theorem next_any (w : World) (h : QOk W p n c m D F w e) : Calls Tryz.prog 63 #[ptrTo e.x] w fun e' w' => e' = .returned (.int .i64 (e.q.next : Int)) ∧ ∃ k, w' = w.drewN k := by
  obtain ⟨c0, c1, c2, hlt⟩ := h.cells
  have HE := box (fun k => End_quiet w k h.lw.seg.row)
  have hb := h.rowed.base
  have hl := h.rowed.len
  obtain ⟨f, hf⟩ : ∃ f, e.R.fin = f := ⟨_, rfl⟩
  obtain ⟨L, hL⟩ : ∃ L, e.q.l.length = L := ⟨_, rfl⟩
  obtain ⟨b, hbb⟩ : ∃ b, e.q.base = b := ⟨_, rfl⟩
  have hfl : f = 20 * L := by rw [← hf, ← hL]; exact h.rowed.fin
  have hn : e.q.next = b + L := by unfold QS.next; rw [hbb, hL]
  have q1 : (f : Int).tdiv 20 = (L : Int) := by rw [Int.tdiv_eq_ediv_of_nonneg (by omega)]; omega
  have q2 : (f : Int) / 20 = (L : Int) := by omega
  rw [hf] at HE
  rw [hbb] at c1 hb
  rw [hL] at hl
  rw [hn]
  obtain ⟨x, hx⟩ : ∃ x, e.x = x := ⟨_, rfl⟩
  obtain ⟨rr, hr⟩ : ∃ rr, e.r = rr := ⟨_, rfl⟩
  rw [hx] at c0 c1 c2 hlt ⊢
  rw [hr] at c0 HE
  clear h hf hL hbb hfl hn hx hr c2
  go_enter Tryz.func63, Tryz.ntmps63
  go_wp2_with (first | go_quiet ((go_at_call 85; exact HE.out _)) | fail)
  go_ret
  exact ⟨ret_int (by simp), _, by first | rfl | exact World.drewN_drewN _ _ _⟩
theorem next_quiet (w : World) (k : Nat) (h : QOk W p n c m D F w e) : Calls Tryz.prog 63 #[ptrTo e.x] (w.drewN k) fun e' w' => e' = .returned (.int .i64 (e.q.next : Int)) ∧ ∃ m, w' = w.drewN m :=
  quiet_of (next_any _ (h.calm ((Calm.refl w).drewN k)))
/-- May there be a queue? -/
def rightC (t : ByteArray) (n : Int) : Int := if topicB t = false then 11 else if n < 0 ∨ 3 ≤ n then 13 else 0
theorem right_any (t : ByteArray) (n : Int) (w : World) : Calls Tryz.prog 60 #[.string t, .int .i64 n] w fun e w' => e = .returned (.int .i64 (rightC t n)) ∧ Calm w w' := by
  have ht := box (Topic_any t w)
  cases hb : topicB t
  · have hr : rightC t n = 11 := by unfold rightC; rw [if_pos hb]
    rw [hb] at ht
    rw [hr]
    clear hr hb
    go_enter Tryz.func60, Tryz.ntmps60
    go_wp2_with fail
    refine ht.out.mono ?_
    rintro e w1 ⟨rfl, hc⟩
    have HC := box hc
    clear hc
    go_wp2_with fail
    go_ret
    exact ⟨rfl, HC.out⟩
  · rw [hb] at ht
    by_cases h1 : n < 0
    · have hr : rightC t n = 13 := by unfold rightC; rw [if_neg (by rw [hb]; decide), if_pos (.inl h1)]
      have t1 : decide (n < 0) = true := decide_eq_true h1
      rw [hr]
      clear hr hb h1
      go_enter Tryz.func60, Tryz.ntmps60
      go_wp2_with fail
      refine ht.out.mono ?_
      rintro e w1 ⟨rfl, hc⟩
      have HC := box hc
      clear hc
      go_wp2_with fail
      go_ret
      exact ⟨rfl, HC.out⟩
    · have t1 : decide (n < 0) = false := decide_eq_false h1
      by_cases h2 : 3 ≤ n
      · have hr : rightC t n = 13 := by unfold rightC; rw [if_neg (by rw [hb]; decide), if_pos (.inr h2)]
        have t2 : decide (3 ≤ n) = true := decide_eq_true h2
        rw [hr]
        clear hr hb h1 h2
        go_enter Tryz.func60, Tryz.ntmps60
        go_wp2_with fail
        refine ht.out.mono ?_
        rintro e w1 ⟨rfl, hc⟩
        have HC := box hc
        clear hc
        go_wp2_with fail
        go_ret
        exact ⟨rfl, HC.out⟩
      · have hr : rightC t n = 0 := by unfold rightC; rw [if_neg (by rw [hb]; decide), if_neg (by omega)]
        have t2 : decide (3 ≤ n) = false := decide_eq_false h2
        rw [hr]
        clear hr hb h1 h2
        go_enter Tryz.func60, Tryz.ntmps60
        go_wp2_with fail
        refine ht.out.mono ?_
        rintro e w1 ⟨rfl, hc⟩
        have HC := box hc
        clear hc
        go_wp2_with fail
        go_ret
        exact ⟨rfl, HC.out⟩
theorem right_zero {t : ByteArray} {n : Int} (h : rightC t n = 0) : topicB t = true ∧ 0 ≤ n ∧ n < 3 := by
  unfold rightC at h
  cases hb : topicB t
  · rw [if_pos hb] at h; cases h
  · rw [if_neg (by rw [hb]; decide)] at h
    refine ⟨rfl, ?_⟩
    by_cases hn : n < 0 ∨ 3 ≤ n
    · rw [if_pos hn] at h; cases h
    · omega
end
end Go.Proofs.YtdepejneliacpaaGreatDoor.cq

/- Layer 10: of; an entry; the least and the next position. -/
namespace Go.Proofs.YtdepejneliacpaaGreatDoor.cq
open Go.ChangeShapes Go.WideShapes Go.ChangeAt Go.RowKit Go.ChangeMaps
open Go.Proofs.YtdepejneliacpaaGreatDoor.dk Go.Proofs.YtdepejneliacpaaGreatDoor.sg Go.Proofs.YtdepejneliacpaaGreatDoor.en Go.Proofs.YtdepejneliacpaaGreatDoor.nm

/-- Is a queue of this topic and number? -/
def QS.is (q : QS) (t : ByteArray) (n : Int) : Prop := q.t = t ∧ (q.n : Int) = n
section
variable {B : ByteArray → Option ByteArray} {W w w' : World} {g p mb n c m r : Nat} {D : DiskS} {R : RowS} {F : Nat → Prop} {v : Value} {es l1 l2 : List Qe} {e : Qe} {t : ByteArray} {k : Int}
theorem CqAt.cells (h : CqAt B W g p mb n c m D F es w) : w.cell? ⟨g, 0, none⟩ = some (ptrTo p) ∧ w.cell? ⟨g, 1, none⟩ = some (.map (some mb)) ∧ g < w.heap.size := ⟨cell_of h.obj 0, cell_of h.obj 1, heap_lt h.obj⟩
theorem CqAt.hit (h : CqAt B W g p mb n c m D F (l1 ++ e :: l2) w) (hk : e.q.is t k) (ht : t.size ≤ maxLen) (hn : (Lit.int .i64 k).wf = true) : (Instr.lookup 106 (.map (some mb)) (.agg #[.string t, .int .i64 k]) false).run Tryz.prog w = .ok (ptrTo e.x) w := by
  have h1 := h.map.hit which_law Tryz.underlying106 (wkey_of ht hn) (v := ptrTo e.x) (by
    rw [List.map_append, List.map_cons]
    have : e.key = wkey t k := by unfold Qe.key; rw [hk.1, hk.2]
    rw [this]
    exact List.mem_append_right _ (List.mem_cons_self ..)) false
  exact h1
theorem zeroQ (w : World) : (zeroValue 120).run Tryz.prog w = .ok (.pointer none) w := by kernel_rfl
theorem CqAt.miss (h : CqAt B W g p mb n c m D F es w) (hno : ∀ e ∈ es, ¬ e.q.is t k) (ht : t.size ≤ maxLen) (hn : (Lit.int .i64 k).wf = true) : (Instr.lookup 106 (.map (some mb)) (.agg #[.string t, .int .i64 k]) false).run Tryz.prog w = .ok (.pointer none) w := by
  have h1 := h.map.miss which_law Tryz.underlying106 (wkey_of ht hn) (zeroQ w) (fun x hx e => by
    obtain ⟨a, ha, rfl⟩ := List.mem_map.1 hx
    exact hno a ha (wkey_inj e)) false
  exact h1
set_option maxRecDepth 100000 in
theorem of_found (h : CqAt B W g p mb n c m D F (l1 ++ e :: l2) w) (hk : e.q.is t k) (ht : t.size ≤ maxLen) (hn : (Lit.int .i64 k).wf = true) :
    Calls Tryz.prog 65 #[ptrTo g, .string t, .int .i64 k] w fun e' w' => e' = .returned (ptrTo e.x) ∧ w = w' := by
  obtain ⟨c0, c1, hlt⟩ := h.cells
  have hh := h.hit hk ht hn
  clear h hk ht hn
  go_enter Tryz.func65, Tryz.ntmps65
  go_wp2_with fail
  go_ret
  exact ⟨rfl, rfl⟩
/-- A queue without entries, that isn't one of them. -/
def NoQ (w : World) (x : Nat) : Prop := w.heap[x]? = some (.cells #[.pointer none, .int .i64 0, .int .i64 0] 126 (0, 0))
set_option maxRecDepth 100000 in
theorem of_none (h : CqAt B W g p mb n c m D F es w) (hno : ∀ e ∈ es, ¬ e.q.is t k) (ht : t.size ≤ maxLen) (hn : (Lit.int .i64 k).wf = true) :
    Calls Tryz.prog 65 #[ptrTo g, .string t, .int .i64 k] w fun e' w' => ∃ x, e' = .returned (ptrTo x) ∧ NoQ w' x ∧ Calm w w' := by
  obtain ⟨c0, c1, hlt⟩ := h.cells
  have hh := h.miss hno ht hn
  have hnew := heap_new w (.cells #[.pointer none, .int .i64 0, .int .i64 0] 126)
  have Hnew := box hnew
  have Hc := box ((Calm.refl w).alloc (.cells #[.pointer none, .int .i64 0, .int .i64 0] 126))
  clear h hno ht hn hnew
  go_enter Tryz.func65, Tryz.ntmps65
  go_wp2_with fail
  go_ret
  exact ⟨_, rfl, Hnew.out, Hc.out⟩
set_option maxRecDepth 100000 in
theorem of_nil (t : ByteArray) (k : Int) (w : World) :
    Calls Tryz.prog 65 #[.pointer none, .string t, .int .i64 k] w fun e' w' => ∃ x, e' = .returned (ptrTo x) ∧ NoQ w' x ∧ Calm w w' := by
  have hnew := heap_new w (.cells #[.pointer none, .int .i64 0, .int .i64 0] 126)
  have Hnew := box hnew
  have Hc := box ((Calm.refl w).alloc (.cells #[.pointer none, .int .i64 0, .int .i64 0] 126))
  clear hnew
  go_enter Tryz.func65, Tryz.ntmps65
  go_wp2_with fail
  go_ret
  exact ⟨_, rfl, Hnew.out, Hc.out⟩
set_option maxRecDepth 100000 in
theorem next_no (x : Nat) (w : World) (h : NoQ w x) : Calls Tryz.prog 63 #[ptrTo x] w fun e' w' => e' = .returned (.int .i64 0) ∧ ∃ k, w' = w.drewN k := by
  have c0 := cell_of h 0
  have c1 := cell_of h 1
  have hlt := heap_lt h
  have HE := box (fun k => (EndNil_any (w.drewN k)).mono fun _ _ ⟨he, hm⟩ => (show _ ∧ ∃ m, _ = w.drewN m from ⟨he, k, hm.symm⟩))
  clear h
  go_enter Tryz.func63, Tryz.ntmps63
  go_wp2_with (first | go_quiet ((go_at_call 85; exact HE.out _)) | fail)
  go_ret
  exact ⟨rfl, _, by first | rfl | exact World.drewN_drewN _ _ _⟩
theorem least_found (h : CqAt B W g p mb n c m D F (l1 ++ e :: l2) w) (hk : e.q.is t k) (ht : t.size ≤ maxLen) (hn : (Lit.int .i64 k).wf = true) :
    Calls Tryz.prog 20 #[ptrTo g, .string t, .int .i64 k] w fun e' w' => e' = .returned (.int .i64 (e.q.least : Int)) ∧ Calm w w' := by
  have ho := box (of_found h hk ht hn)
  obtain ⟨c0, c1, c2, hlt⟩ := (h.rows e (List.mem_append_right _ (List.mem_cons_self ..))).cells
  clear h hk ht hn
  go_enter Tryz.func20, Tryz.ntmps20
  go_wp2_with fail
  refine ho.out.mono ?_
  rintro e' w1 ⟨rfl, rfl⟩
  go_wp2_with fail
  go_ret
  exact ⟨rfl, .refl _⟩
theorem next_found (h : CqAt B W g p mb n c m D F (l1 ++ e :: l2) w) (hk : e.q.is t k) (ht : t.size ≤ maxLen) (hn : (Lit.int .i64 k).wf = true) :
    Calls Tryz.prog 19 #[ptrTo g, .string t, .int .i64 k] w fun e' w' => e' = .returned (.int .i64 (e.q.next : Int)) ∧ Calm w w' := by
  have ho := box (of_found h hk ht hn)
  have hx := box (next_any w (h.rows e (List.mem_append_right _ (List.mem_cons_self ..))))
  clear h hk ht hn
  go_enter Tryz.func19, Tryz.ntmps19
  go_wp2_with fail
  refine ho.out.mono ?_
  rintro e' w1 ⟨rfl, rfl⟩
  go_wp2_with fail
  refine hx.out.mono ?_
  rintro e' w1 ⟨rfl, j, rfl⟩
  go_wp2_with fail
  go_ret
  exact ⟨rfl, (Calm.refl w).drewN j⟩
theorem placeSize : (Tryz.prog.info? 33).map (·.size) = some 4 := by kernel_rfl
theorem ret_place {fn : Func} {p u : Tmp} (h : fn.results = #[.cell p 33, .tmp u]) (tmps : Array Value) (w : World) (b : Nat) (cs : Array Value)
    (hp : tmps.getD p undef = .pointer (some ⟨b, 0, none⟩)) (hg : w.heap[b]? = some (.cells cs 33 (0, 0))) (hc : cs.size = 4) :
    (results fn tmps).run Tryz.prog w = .ok (.tuple #[.agg cs, tmps.getD u undef]) w := by
  rw [results_cell_tmp h, hp]
  have hload := run_loadVar_row (P := Tryz.prog) w b 33 33 cs (0, 0) _ hg Tryz.underlying33 rfl (by rw [placeSize, hc])
  simp [asAddr, hload, Result.andThen]
theorem set4 {w : World} {b : Nat} {z0 z1 z2 z3 x0 x1 x2 x3 : Value} {T : TypeId} (h : w.heap[b]? = some (.cells #[z0, z1, z2, z3] T (0, 0))) :
    ((((w.setCell ⟨b, 0, none⟩ x0).setCell ⟨b, 1, none⟩ x1).setCell ⟨b, 2, none⟩ x2).setCell ⟨b, 3, none⟩ x3).heap[b]? = some (.cells #[x0, x1, x2, x3] T (0, 0)) := heap_set (heap_set (heap_set (heap_set h 0 x0) 1 x1) 2 x2) 3 x3
theorem set4_calm {a w : World} {b : Nat} {x0 x1 x2 x3 : Value} (hc : Calm a w) (hb : a.heap.size ≤ b) : Calm a ((((w.setCell ⟨b, 0, none⟩ x0).setCell ⟨b, 1, none⟩ x1).setCell ⟨b, 2, none⟩ x2).setCell ⟨b, 3, none⟩ x3) :=
  Below.trans hc (((((Keeps.refl (fun y => y = b) w).setCell (p := ⟨b, 0, none⟩) (.inl rfl) x0).setCell (p := ⟨b, 1, none⟩) (.inl rfl) x1).setCell (p := ⟨b, 2, none⟩) (.inl rfl) x2).setCell (p := ⟨b, 3, none⟩) (.inl rfl) x3 |>.below hc.size (fun y hy => by rw [hy]; exact hb))
/-- A queue's block, throughout a region. -/
structure Qh (w0 : World) (x rr b l : Nat) (w : World) : Prop where
  calm : Calm w0 w
  obj : w.heap[x]? = some (.cells #[ptrTo rr, .int .i64 (b : Int), .int .i64 (l : Int)] 126 (0, 0))
theorem Qh.next {w0 : World} {x rr b l : Nat} (h : Qh w0 x rr b l w) (hc : Calm w w') : Qh w0 x rr b l w' := ⟨h.calm.trans hc, heap_calm hc h.obj⟩
theorem Qh.cells {w0 : World} {x rr b l : Nat} (h : Qh w0 x rr b l w) : w.cell? ⟨x, 0, none⟩ = some (ptrTo rr) ∧ w.cell? ⟨x, 1, none⟩ = some (.int .i64 (b : Int)) ∧ w.cell? ⟨x, 2, none⟩ = some (.int .i64 (l : Int)) ∧ x < w.heap.size ∧ True ∧ True ∧ True ∧ True ∧ True ∧ True :=
  ⟨cell_of h.obj 0, cell_of h.obj 1, cell_of h.obj 2, heap_lt h.obj, trivial, trivial, trivial, trivial, trivial, trivial⟩
/-- An entry is read. -/
theorem Read_entry (w : World) (h : QOk W p n c m D F w e) {i : Nat} (hi : i < e.q.l.length) (hs : e.R.start ≤ 20 * i) :
    Calls Tryz.prog 95 #[ptrTo e.r, .int .i64 ((20 * i : Nat) : Int), .int .i64 20] w fun e' w' => e' = .returned (.tuple #[.string ⟨(plcB e.q.l[i]).toArray⟩, .int .i64 0]) ∧ Calm w w' := by
  have hr := Read_any ((20 * i : Nat) : Int) 20 w h.lw.seg
  rw [h.rowed.read h.lw.holds h.lw.able.alive hi hs] at hr
  exact hr
set_option maxRecDepth 100000 in
theorem at_any (w : World) (h : QOk W p n c m D F w e) {i : Nat} (hi : i < e.q.l.length) (hs : e.R.start ≤ 20 * i) :
    Calls Tryz.prog 66 #[ptrTo e.x, .int .i64 ((e.q.base + i : Nat) : Int)] w fun e' w' => e' = .returned (.tuple #[.agg (e.q.l[i]).cells, .int .i64 0]) ∧ Calm w w' := by
  obtain ⟨wa, hwa⟩ : ∃ wa, w.alloc (.cells #[.int .i64 0, .int .i64 0, .int .i64 0, .int .i64 0] 33) = wa := ⟨_, rfl⟩
  have hc : Calm w wa := by rw [← hwa]; exact (Calm.refl w).alloc _
  have Hnl := box (show wa.heap[w.heap.size]? = some (.cells #[.int .i64 0, .int .i64 0, .int .i64 0, .int .i64 0] 33 (0, 0)) from by rw [← hwa]; exact heap_new w _)
  have HR := box (fun W' (hc : Calm w W') => Read_entry W' (h.calm hc) hi hs)
  have hok := h.rowed.ok _ (List.getElem_mem hi)
  have hlen := h.rowed.len
  have hb := h.rowed.base
  have hsz : (⟨(plcB e.q.l[i]).toArray⟩ : ByteArray).size = 20 := by rw [bytes_size, plcB_length]
  have HG := box (fun W' => Place_get ⟨(plcB e.q.l[i]).toArray⟩ W' (by rw [hsz]; decide))
  rw [get4_plc hok] at HG
  have Hc := box hc
  have hobj := (h.calm hc).obj
  unfold Qe.cells at hobj
  obtain ⟨y, hy⟩ : ∃ y, e.q.l[i] = y := ⟨_, rfl⟩
  obtain ⟨b, hbb⟩ : ∃ b, e.q.base = b := ⟨_, rfl⟩
  obtain ⟨l, hll⟩ : ∃ l, e.q.least = l := ⟨_, rfl⟩
  obtain ⟨x, hx⟩ : ∃ x, e.x = x := ⟨_, rfl⟩
  obtain ⟨rr, hr⟩ : ∃ rr, e.r = rr := ⟨_, rfl⟩
  obtain ⟨ya, yb, yc, yd⟩ := y
  rw [hy] at HR HG hsz ⊢
  rw [hbb] at hb hobj ⊢
  rw [hll] at hobj
  rw [hx] at hobj ⊢
  rw [hr] at hobj HR
  have HQ := box (show Qh wa x rr b l wa from ⟨.refl _, hobj⟩)
  have HQ2 := box (show Qh wa x rr b l wa.drew from ⟨(Calm.refl wa).drewN 1, hobj⟩)
  obtain ⟨sg, hsg⟩ : ∃ sg : ByteArray, (⟨(plcB ⟨ya, yb, yc, yd⟩).toArray⟩ : ByteArray) = sg := ⟨_, rfl⟩
  rw [hsg] at HR HG hsz
  have k1 : IntKind.i64.wrap (((b : Int) + (i : Int)) - (b : Int)) = (i : Int) := by rw [IntWalk.i64_in _ (by omega)]; omega
  have k2 : (b : Int) + (i : Int) - (b : Int) = (i : Int) := by omega
  have k3 : IntKind.i64.wrap ((i : Int) * 20) = 20 * (i : Int) := by rw [IntWalk.i64_in _ (by omega)]; omega
  have k4 : IntKind.i64.wrap (i : Int) = (i : Int) := IntWalk.i64_in _ (by omega)
  clear h hc hy hbb hx hr hok hll hobj hsg
  go_enter Tryz.func66, Tryz.ntmps66
  go_wp2_with fail
  (try rw [hwa])
  obtain ⟨c0, c1, c2, hlt, _⟩ := HQ.out.cells
  refine wp_region_held_drew (S := fun W' => Box (Qh wa x rr b l W')) (by kernel_rfl) HQ2 (fun g0 => ?_)
  ((refine' wpAnyH_take (i := 0) (v := _) rfl (by kernel_rfl) (by kernel_rfl) (by kernel_rfl) (fun _ _ _ h => h) (Or.inl ⟨by rfl, ?hy1⟩) (by assumption) ?rest1; (case hy1 => (intro w hSw; obtain ⟨hz0, hz1, hz2, hz3, hz4, hz5, hz6, hz7, hz8, hz9⟩ := hSw.out.cells; go_simp <;> with_reducible rfl)); simp only [List.getElem_toArray, List.getElem_cons_succ, List.getElem_cons_zero, Act.put, List.setIfInBounds_toArray, List.set_cons_zero, List.set_cons_succ]); (refine' wpAnyH_take (i := 1) (v := _) rfl (by kernel_rfl) (by kernel_rfl) (by kernel_rfl) (fun _ _ _ h => h) (Or.inl ⟨by rfl, ?hy2⟩) (by assumption) ?rest2; (case hy2 => (intro w hSw; obtain ⟨hz0, hz1, hz2, hz3, hz4, hz5, hz6, hz7, hz8, hz9⟩ := hSw.out.cells; go_simp <;> with_reducible rfl)); simp only [List.getElem_toArray, List.getElem_cons_succ, List.getElem_cons_zero, Act.put, List.setIfInBounds_toArray, List.set_cons_zero, List.set_cons_succ]); (refine' wpAnyH_take (i := 2) (v := _) rfl (by kernel_rfl) (by kernel_rfl) (by kernel_rfl) (fun _ _ _ h => h) (Or.inl ⟨by rfl, ?hy3⟩) (by assumption) ?rest3; (case hy3 => (intro w hSw; obtain ⟨hz0, hz1, hz2, hz3, hz4, hz5, hz6, hz7, hz8, hz9⟩ := hSw.out.cells; go_simp <;> with_reducible rfl)); simp only [List.getElem_toArray, List.getElem_cons_succ, List.getElem_cons_zero, Act.put, List.setIfInBounds_toArray, List.set_cons_zero, List.set_cons_succ]); (refine' wpAnyH_take (i := 3) (v := _) rfl (by kernel_rfl) (by kernel_rfl) (by kernel_rfl) (fun _ _ _ h => h) (Or.inl ⟨by rfl, ?hy4⟩) (by assumption) ?rest4; (case hy4 => (intro w hSw; obtain ⟨hz0, hz1, hz2, hz3, hz4, hz5, hz6, hz7, hz8, hz9⟩ := hSw.out.cells; go_simp <;> with_reducible rfl)); simp only [List.getElem_toArray, List.getElem_cons_succ, List.getElem_cons_zero, Act.put, List.setIfInBounds_toArray, List.set_cons_zero, List.set_cons_succ]); (refine' wpAnyH_take (i := 4) (v := _) rfl (by kernel_rfl) (by kernel_rfl) (by kernel_rfl) (fun _ _ _ h => h) (Or.inl ⟨by rfl, ?hy5⟩) (by assumption) ?rest5; (case hy5 => (intro w hSw; obtain ⟨hz0, hz1, hz2, hz3, hz4, hz5, hz6, hz7, hz8, hz9⟩ := hSw.out.cells; go_simp <;> with_reducible rfl)); simp only [List.getElem_toArray, List.getElem_cons_succ, List.getElem_cons_zero, Act.put, List.setIfInBounds_toArray, List.set_cons_zero, List.set_cons_succ]); (refine' wpAnyH_take (i := 5) (v := _) rfl (by kernel_rfl) (by kernel_rfl) (by kernel_rfl) (fun _ _ _ h => h) (Or.inl ⟨by rfl, ?hy6⟩) (by assumption) ?rest6; (case hy6 => (intro w hSw; obtain ⟨hz0, hz1, hz2, hz3, hz4, hz5, hz6, hz7, hz8, hz9⟩ := hSw.out.cells; go_simp <;> with_reducible rfl)); simp only [List.getElem_toArray, List.getElem_cons_succ, List.getElem_cons_zero, Act.put, List.setIfInBounds_toArray, List.set_cons_zero, List.set_cons_succ]); (refine' wpAnyH_take (i := 6) (v := _) rfl (by kernel_rfl) (by kernel_rfl) (by kernel_rfl) (fun _ _ _ h => h) (Or.inl ⟨by rfl, ?hy7⟩) (by assumption) ?rest7; (case hy7 => (intro w hSw; obtain ⟨hz0, hz1, hz2, hz3, hz4, hz5, hz6, hz7, hz8, hz9⟩ := hSw.out.cells; go_simp <;> with_reducible rfl)); simp only [List.getElem_toArray, List.getElem_cons_succ, List.getElem_cons_zero, Act.put, List.setIfInBounds_toArray, List.set_cons_zero, List.set_cons_succ]); (refine' wpAnyH_take (i := 7) (v := _) rfl (by kernel_rfl) (by kernel_rfl) (by kernel_rfl) (fun _ _ _ h => h) (Or.inl ⟨by rfl, ?hy8⟩) (by assumption) ?rest8; (case hy8 => (intro w hSw; obtain ⟨hz0, hz1, hz2, hz3, hz4, hz5, hz6, hz7, hz8, hz9⟩ := hSw.out.cells; go_simp <;> with_reducible rfl)); simp only [List.getElem_toArray, List.getElem_cons_succ, List.getElem_cons_zero, Act.put, List.setIfInBounds_toArray, List.set_cons_zero, List.set_cons_succ]); (refine' wpAnyH_take (i := 8) (v := _) rfl (by kernel_rfl) (by kernel_rfl) (by kernel_rfl) (fun _ _ _ h => h) (Or.inl ⟨by rfl, ?hy9⟩) (by assumption) ?rest9; (case hy9 => (intro w hSw; obtain ⟨hz0, hz1, hz2, hz3, hz4, hz5, hz6, hz7, hz8, hz9⟩ := hSw.out.cells; go_simp <;> with_reducible rfl)); simp only [List.getElem_toArray, List.getElem_cons_succ, List.getElem_cons_zero, Act.put, List.setIfInBounds_toArray, List.set_cons_zero, List.set_cons_succ]); (refine' wpAnyH_take (i := 9) (v := _) rfl (by kernel_rfl) (by kernel_rfl) (by kernel_rfl) (fun _ _ _ h => h) (Or.inl ⟨by rfl, ?hy10⟩) (by assumption) ?rest10; (case hy10 => (intro w hSw; obtain ⟨hz0, hz1, hz2, hz3, hz4, hz5, hz6, hz7, hz8, hz9⟩ := hSw.out.cells; go_simp <;> with_reducible rfl)); simp only [List.getElem_toArray, List.getElem_cons_succ, List.getElem_cons_zero, Act.put, List.setIfInBounds_toArray, List.set_cons_zero, List.set_cons_succ]); (refine' wpAnyH_take (i := 10) (v := _) rfl (by kernel_rfl) (by kernel_rfl) (by kernel_rfl) (fun _ _ _ h => h) (Or.inl ⟨by rfl, ?hy11⟩) (by assumption) ?rest11; (case hy11 => (intro w hSw; obtain ⟨hz0, hz1, hz2, hz3, hz4, hz5, hz6, hz7, hz8, hz9⟩ := hSw.out.cells; go_simp <;> with_reducible rfl)); simp only [List.getElem_toArray, List.getElem_cons_succ, List.getElem_cons_zero, Act.put, List.setIfInBounds_toArray, List.set_cons_zero, List.set_cons_succ]))
  refine wpAnyH_ready (rs := [11]) (by kernel_rfl) (by simp) ?_
  refine AllReadyH.cons rfl (fun K hK => ?_) AllReadyH.nil
  rw [if_pos (by rfl)]
  go_simp
  refine (HR.out _ (Hc.out.trans g0.out.calm)).mono ?_
  rintro e w1 ⟨rfl, hb1⟩
  have h1 := box (g0.out.next hb1)
  clear hb1
  go_wp2_with fail
  refine hK.out _ _ h1 (fun g1 => ?_)
  clear hK K
  try simp only [List.getElem_toArray, List.getElem_cons_succ, List.getElem_cons_zero, Act.put, List.setIfInBounds_toArray, List.set_cons_zero, List.set_cons_succ]
  ((refine' wpAnyH_take (i := 12) (v := _) rfl (by kernel_rfl) (by kernel_rfl) (by kernel_rfl) (fun _ _ _ h => h) (Or.inl ⟨by rfl, ?hy12⟩) (by assumption) ?rest12; (case hy12 => (intro w hSw; (try dsimp only at hSw); go_simp <;> with_reducible rfl)); simp only [List.getElem_toArray, List.getElem_cons_succ, List.getElem_cons_zero, Act.put, List.setIfInBounds_toArray, List.set_cons_zero, List.set_cons_succ]); (refine' wpAnyH_take (i := 13) (v := _) rfl (by kernel_rfl) (by kernel_rfl) (by kernel_rfl) (fun _ _ _ h => h) (Or.inl ⟨by rfl, ?hy13⟩) (by assumption) ?rest13; (case hy13 => (intro w hSw; (try dsimp only at hSw); go_simp <;> with_reducible rfl)); simp only [List.getElem_toArray, List.getElem_cons_succ, List.getElem_cons_zero, Act.put, List.setIfInBounds_toArray, List.set_cons_zero, List.set_cons_succ]); (refine' wpAnyH_take (i := 14) (v := _) rfl (by kernel_rfl) (by kernel_rfl) (by kernel_rfl) (fun _ _ _ h => h) (Or.inl ⟨by rfl, ?hy14⟩) (by assumption) ?rest14; (case hy14 => (intro w hSw; (try dsimp only at hSw); go_simp <;> with_reducible rfl)); simp only [List.getElem_toArray, List.getElem_cons_succ, List.getElem_cons_zero, Act.put, List.setIfInBounds_toArray, List.set_cons_zero, List.set_cons_succ]); (refine' wpAnyH_take (i := 15) (v := _) rfl (by kernel_rfl) (by kernel_rfl) (by kernel_rfl) (fun _ _ _ h => h) (Or.inl ⟨by rfl, ?hy15⟩) (by assumption) ?rest15; (case hy15 => (intro w hSw; (try dsimp only at hSw); go_simp <;> with_reducible rfl)); simp only [List.getElem_toArray, List.getElem_cons_succ, List.getElem_cons_zero, Act.put, List.setIfInBounds_toArray, List.set_cons_zero, List.set_cons_succ]); (refine' wpAnyH_take (i := 16) (v := _) rfl (by kernel_rfl) (by kernel_rfl) (by kernel_rfl) (fun _ _ _ h => h) (Or.inl ⟨by rfl, ?hy16⟩) (by assumption) ?rest16; (case hy16 => (intro w hSw; (try dsimp only at hSw); go_simp <;> with_reducible rfl)); simp only [List.getElem_toArray, List.getElem_cons_succ, List.getElem_cons_zero, Act.put, List.setIfInBounds_toArray, List.set_cons_zero, List.set_cons_succ]))
  refine wpAnyH_done (by kernel_rfl) ?_ _
  have HC1 := box (Hc.out.trans h1.out.calm)
  have Hn1 := box (heap_calm h1.out.calm Hnl.out)
  clear g0 h1 g1 c0 c1 c2 hlt HQ HQ2 HR k1 k2 k3 k4
  go_wp2_with fail
  refine (HG.out _).mono ?_
  rintro e w2 ⟨rfl, hc2⟩
  have HC2 := box (HC1.out.trans hc2)
  have Hn2 := box (heap_calm hc2 Hn1.out)
  clear hc2 HG Hn1 HC1
  have d0 := cell_of Hn2.out 0
  have d1 := cell_of Hn2.out 1
  have d2 := cell_of Hn2.out 2
  have d3 := cell_of Hn2.out 3
  have f0 := free_of Hn2.out 0
  have f1 := free_of Hn2.out 1
  have f2 := free_of Hn2.out 2
  have f3 := free_of Hn2.out 3
  have dlt := heap_lt Hn2.out
  have Hs := box (set4 (x0 := .int .i64 ya) (x1 := .int .i64 yb) (x2 := .int .i64 yc) (x3 := .int .i64 yd) Hn2.out)
  have HC3 := box (set4_calm (x0 := .int .i64 ya) (x1 := .int .i64 yb) (x2 := .int .i64 yc) (x3 := .int .i64 yd) HC2.out (Nat.le_refl _))
  go_wp2_with fail
  refine bodyPost_ret (ret_place rfl _ _ w.heap.size _ rfl (heap_old _ _ Hs.out) rfl) rfl ?_
  exact ⟨rfl, HC3.out.alloc _⟩
end
end Go.Proofs.YtdepejneliacpaaGreatDoor.cq

/- Layer 10: At, Seek. -/
namespace Go.Proofs.YtdepejneliacpaaGreatDoor.cq
open Go.ChangeShapes Go.WideShapes Go.ChangeAt Go.RowKit Go.ChangeMaps
open Go.Proofs.YtdepejneliacpaaGreatDoor.dk Go.Proofs.YtdepejneliacpaaGreatDoor.sg Go.Proofs.YtdepejneliacpaaGreatDoor.en Go.Proofs.YtdepejneliacpaaGreatDoor.nm

abbrev noPlace : Value := .agg #[.int .i64 0, .int .i64 0, .int .i64 0, .int .i64 0]
section
variable {B : ByteArray → Option ByteArray} {W w w' : World} {g p mb n c m r : Nat} {D : DiskS} {R : RowS} {F : Nat → Prop} {v : Value} {es l1 l2 : List Qe} {e : Qe} {t : ByteArray} {k : Int}
/-- What 'At' tells. -/
def AtIs (q : QS) (a : Int) (x : Ending) : Prop :=
  (0 ≤ a ∧ a < q.least ∧ x = .returned (.tuple #[noPlace, .int .i64 14])) ∨ ((a < 0 ∨ (q.next : Int) ≤ a) ∧ x = .returned (.tuple #[noPlace, .int .i64 2])) ∨
    ∃ (i : Nat) (hi : i < q.l.length), a = ((q.base + i : Nat) : Int) ∧ (q.least : Int) ≤ a ∧ x = .returned (.tuple #[.agg (q.l[i]).cells, .int .i64 0])
set_option maxRecDepth 100000 in
set_option maxHeartbeats 1000000 in
theorem At_found (h : CqAt B W g p mb n c m D F (l1 ++ e :: l2) w) (hk : e.q.is t k) (ht : t.size ≤ maxLen) (hn : (Lit.int .i64 k).wf = true) (a : Int) :
    Calls Tryz.prog 17 #[ptrTo g, .string t, .int .i64 k, .int .i64 a] w fun e' w' => AtIs e.q a e' ∧ Calm w w' := by
  obtain ⟨wa, hwa⟩ : ∃ wa, w.alloc (.cells #[.int .i64 0, .int .i64 0, .int .i64 0, .int .i64 0] 33) = wa := ⟨_, rfl⟩
  have hc : Calm w wa := by rw [← hwa]; exact (Calm.refl w).alloc _
  have Hnl := box (show wa.heap[w.heap.size]? = some (.cells #[.int .i64 0, .int .i64 0, .int .i64 0, .int .i64 0] 33 (0, 0)) from by rw [← hwa]; exact heap_new w _)
  have Hc := box hc
  have ho := box (of_found (h.cale hc) hk ht hn)
  have he := (h.rows e (List.mem_append_right _ (List.mem_cons_self ..))).calm hc
  have hnx := box (next_any wa he)
  have hro := he.rowed
  have hat := box (fun (i : Nat) (hi : i < e.q.l.length) (hs : e.R.start ≤ 20 * i) (W' : World) (hc : Calm wa W') => at_any W' (he.calm hc) hi hs)
  obtain ⟨c0, c1, c2, hlt⟩ := he.cells
  have h1 := hro.low
  have h2 := hro.start
  have h3 : e.q.next = e.q.base + e.q.l.length := rfl
  obtain ⟨q, hq⟩ : ∃ q, e.q = q := ⟨_, rfl⟩
  obtain ⟨x, hx⟩ : ∃ x, e.x = x := ⟨_, rfl⟩
  obtain ⟨s, hs⟩ : ∃ s, e.R.start = s := ⟨_, rfl⟩
  simp only [hq, hx, hs] at *
  clear h hk ht hn he hro hc hq hx hs
  have d0 := cell_of Hnl.out 0
  have d1 := cell_of Hnl.out 1
  have d2 := cell_of Hnl.out 2
  have d3 := cell_of Hnl.out 3
  have f0 := free_of Hnl.out 0
  have f1 := free_of Hnl.out 1
  have f2 := free_of Hnl.out 2
  have f3 := free_of Hnl.out 3
  have dlt := heap_lt Hnl.out
  by_cases ha : a < 0
  · have t1 : decide (0 ≤ a) = false := decide_eq_false (by omega)
    have t2 : decide (a < 0) = true := decide_eq_true ha
    have Hs := box (set4 (x0 := .int .i64 0) (x1 := .int .i64 0) (x2 := .int .i64 0) (x3 := .int .i64 0) Hnl.out)
    have HC3 := box (set4_calm (x0 := .int .i64 0) (x1 := .int .i64 0) (x2 := .int .i64 0) (x3 := .int .i64 0) Hc.out (Nat.le_refl _))
    go_enter Tryz.func17, Tryz.ntmps17
    go_wp2_with fail
    (try rw [hwa])
    refine ho.out.mono ?_
    rintro e' w1 ⟨rfl, rfl⟩
    go_wp2_with fail
    refine bodyPost_ret (ret_place rfl _ _ w.heap.size _ rfl Hs.out rfl) rfl ?_
    exact ⟨.inr (.inl ⟨.inl ha, rfl⟩), HC3.out⟩
  obtain ⟨j, rfl⟩ : ∃ j : Nat, a = j := ⟨a.toNat, by omega⟩
  clear ha
  by_cases hb : j < q.least
  · have t1 : decide (j < q.least) = true := decide_eq_true hb
    have Hs := box (set4 (x0 := .int .i64 0) (x1 := .int .i64 0) (x2 := .int .i64 0) (x3 := .int .i64 0) Hnl.out)
    have HC3 := box (set4_calm (x0 := .int .i64 0) (x1 := .int .i64 0) (x2 := .int .i64 0) (x3 := .int .i64 0) Hc.out (Nat.le_refl _))
    go_enter Tryz.func17, Tryz.ntmps17
    go_wp2_with fail
    (try rw [hwa])
    refine ho.out.mono ?_
    rintro e' w1 ⟨rfl, rfl⟩
    go_wp2_with fail
    refine bodyPost_ret (ret_place rfl _ _ w.heap.size _ rfl Hs.out rfl) rfl ?_
    exact ⟨.inl ⟨by omega, by omega, rfl⟩, HC3.out⟩
  have t1 : decide (j < q.least) = false := decide_eq_false hb
  by_cases hd : q.next ≤ j
  · have t2 : decide (q.next ≤ j) = true := decide_eq_true hd
    go_enter Tryz.func17, Tryz.ntmps17
    go_wp2_with fail
    (try rw [hwa])
    refine ho.out.mono ?_
    rintro e' w1 ⟨rfl, rfl⟩
    go_wp2_with fail
    refine hnx.out.mono ?_
    rintro e' w2 ⟨rfl, i, rfl⟩
    have Hs := box (set4 (w := wa.drewN i) (x0 := .int .i64 0) (x1 := .int .i64 0) (x2 := .int .i64 0) (x3 := .int .i64 0) Hnl.out)
    have HC3 := box (set4_calm (x0 := .int .i64 0) (x1 := .int .i64 0) (x2 := .int .i64 0) (x3 := .int .i64 0) (Hc.out.drewN i) (Nat.le_refl _))
    go_wp2_with fail
    refine bodyPost_ret (ret_place rfl _ _ w.heap.size _ rfl Hs.out rfl) rfl ?_
    exact ⟨.inr (.inl ⟨.inr (by omega), rfl⟩), HC3.out⟩
  have t2 : decide (q.next ≤ j) = false := decide_eq_false hd
  obtain ⟨i, rfl⟩ : ∃ i, j = q.base + i := ⟨j - q.base, by omega⟩
  have hi : i < q.l.length := by omega
  have hat2 := box (hat.out i hi (by omega))
  obtain ⟨y, hy⟩ : ∃ y, q.l[i] = y := ⟨_, rfl⟩
  have Hy := box hy
  rw [hy] at hat2
  obtain ⟨ya, yb, yc, yd⟩ := y
  simp only [P4.cells] at hat2
  clear hat hy
  go_enter Tryz.func17, Tryz.ntmps17
  go_wp2_with fail
  (try rw [hwa])
  refine ho.out.mono ?_
  rintro e' w1 ⟨rfl, rfl⟩
  go_wp2_with fail
  refine hnx.out.mono ?_
  rintro e' w2 ⟨rfl, d, rfl⟩
  have hat3 := box (hat2.out (wa.drewN d) ((Calm.refl wa).drewN d))
  go_wp2_with fail
  refine hat3.out.mono ?_
  rintro e' w3 ⟨rfl, hc3⟩
  have hc4 := box (Hc.out.trans (((Calm.refl wa).drewN d).trans hc3))
  have Hn3 := box (heap_calm (((Calm.refl wa).drewN d).trans hc3) Hnl.out)
  clear hc3 hat2 hat3 f0 f1 f2 f3 dlt d0 d1 d2 d3
  have d0 := cell_of Hn3.out 0
  have d1 := cell_of Hn3.out 1
  have d2 := cell_of Hn3.out 2
  have d3 := cell_of Hn3.out 3
  have f0 := free_of Hn3.out 0
  have f1 := free_of Hn3.out 1
  have f2 := free_of Hn3.out 2
  have f3 := free_of Hn3.out 3
  have dlt := heap_lt Hn3.out
  have Hs := box (set4 (x0 := .int .i64 ya) (x1 := .int .i64 yb) (x2 := .int .i64 yc) (x3 := .int .i64 yd) Hn3.out)
  have HC3 := box (set4_calm (x0 := .int .i64 ya) (x1 := .int .i64 yb) (x2 := .int .i64 yc) (x3 := .int .i64 yd) hc4.out (Nat.le_refl _))
  go_wp2_with fail
  refine bodyPost_ret (ret_place rfl _ _ w.heap.size _ rfl Hs.out rfl) rfl ?_
  exact ⟨.inr (.inr ⟨i, hi, rfl, by omega, by rw [Hy.out]; rfl⟩), HC3.out⟩
set_option maxRecDepth 100000 in
set_option maxHeartbeats 1000000 in
theorem Seek_found (h : CqAt B W g p mb n c m D F (l1 ++ e :: l2) w) (hk : e.q.is t k) (ht : t.size ≤ maxLen) (hn : (Lit.int .i64 k).wf = true) (born : Int) :
    Calls Tryz.prog 16 #[ptrTo g, .string t, .int .i64 k, .int .i64 born] w fun e' w' => e' = .returned (.int .i64 ((e.q.far fun p => decide (p.d < born) : Nat) : Int)) ∧ Calm w w' := by
  have ho := box (of_found h hk ht hn)
  have he := h.rows e (List.mem_append_right _ (List.mem_cons_self ..))
  have hnx := box (fun (W' : World) (hc : Calm w W') => next_any W' (he.calm hc))
  have hro := he.rowed
  have hat := box (fun (i : Nat) (hi : i < e.q.l.length) (hs : e.R.start ≤ 20 * i) (W' : World) (hc : Calm w W') => at_any W' (he.calm hc) hi hs)
  obtain ⟨c0, c1, c2, hlt⟩ := he.cells
  have h1 := hro.low
  have h2 := hro.start
  have h3 : e.q.next = e.q.base + e.q.l.length := rfl
  have h4 := hro.base
  have h5 := hro.len
  have hfar := box (fun {j : Nat} (h1 : e.q.least ≤ j) (h2 : j ≤ e.q.far fun p => decide (p.d < born)) => QS.far_iff hro (fun p => decide (p.d < born)) h1 h2)
  have hfl := QS.far_le hro (fun p => decide (p.d < born))
  obtain ⟨q, hq⟩ : ∃ q, e.q = q := ⟨_, rfl⟩
  obtain ⟨x, hx⟩ : ∃ x, e.x = x := ⟨_, rfl⟩
  obtain ⟨s, hs⟩ : ∃ s, e.R.start = s := ⟨_, rfl⟩
  simp only [hq, hx, hs] at *
  clear h hk ht hn he hro hq hx hs
  obtain ⟨fr, hfr⟩ : ∃ fr, (q.far fun p => decide (p.d < born)) = fr := ⟨_, rfl⟩
  rw [hfr] at hfl ⊢
  have Hfr := box hfr
  clear hfr
  go_enter Tryz.func16, Tryz.ntmps16
  go_wp2_with fail
  refine ho.out.mono ?_
  rintro e' w1 ⟨rfl, rfl⟩
  go_wp2_with fail
  go_loopw [10] (fun av wr => ∃ j : Nat, av = .int .i64 (j : Int) ∧ q.least ≤ j ∧ j ≤ fr ∧ Box (Calm w wr)) (fun av _ => q.next - (intOf av).toNat)
  case atStart => exact ⟨_, rfl, Nat.le_refl _, hfl.1, box (.refl _)⟩
  case round =>
    obtain ⟨j, rfl, hj1, hj2, HC⟩ := hrel
    obtain ⟨wo, hwo⟩ : ∃ wo : World, wo = wr := ⟨_, rfl⟩
    subst hwo
    have hn1 := box (hnx.out wo HC.out)
    have hf1 := hfar.out hj1 (by rw [Hfr.out]; exact hj2)
    rw [Hfr.out] at hf1
    have Hf1 := box hf1
    clear hf1
    by_cases hlt2 : j < q.next
    · have t1 : decide (j < q.next) = true := decide_eq_true hlt2
      go_wp2_with fail
      refine hn1.out.mono ?_
      rintro e' w2 ⟨rfl, d, rfl⟩
      have HC2 := box (HC.out.drewN d)
      obtain ⟨i, rfl⟩ : ∃ i, j = q.base + i := ⟨j - q.base, by omega⟩
      have hi : i < q.l.length := by omega
      have hat2 := box (hat.out i hi (by omega) (wo.drewN d) HC2.out)
      obtain ⟨y, hy⟩ : ∃ y, q.l[i] = y := ⟨_, rfl⟩
      have Hy := box hy
      rw [hy] at hat2
      obtain ⟨ya, yb, yc, yd⟩ := y
      simp only [P4.cells] at hat2
      clear hy hn1
      go_wp2_with fail
      refine hat2.out.mono ?_
      rintro e' w3 ⟨rfl, hc3⟩
      have HC3 := box (HC2.out.trans hc3)
      clear hat2 hc3
      by_cases hb : born ≤ yd
      · have t2 : decide (born ≤ yd) = true := decide_eq_true hb
        have hje : q.base + i = fr := by
          by_cases hx : q.base + i < fr
          · obtain ⟨hk, hp⟩ := Hf1.out.1 hx
            simp only [Nat.add_sub_cancel_left] at hp
            rw [Hy.out] at hp
            have := of_decide_eq_true hp
            simp only at this
            omega
          · omega
        have Hje := box hje
        clear hje Hf1
        go_wp2_with fail
        go_ret
        exact ⟨ret_int (by rw [← Hje.out]; omega), HC3.out.alloc _⟩
      · have t2 : decide (born ≤ yd) = false := decide_eq_false hb
        have hjl : q.base + i < fr := Hf1.out.2 ⟨by rw [Nat.add_sub_cancel_left]; exact hi, by
          simp only [Nat.add_sub_cancel_left]
          rw [Hy.out]
          exact decide_eq_true (by simp only; omega)⟩
        clear Hf1
        have HC4 := box (HC3.out.alloc (.cells #[.int .i64 ya, .int .i64 yb, .int .i64 yc, .int .i64 yd] 33))
        go_wp2_with fail
        go_roundw
        case rel => exact ⟨q.base + i + 1, by go_num, by omega, by omega, HC4⟩
        case measure => simp [intOf]; omega
    · have t1 : decide (j < q.next) = false := decide_eq_false hlt2
      have hje : j = fr := by omega
      have Hje := box hje
      clear hje
      go_wp2_with fail
      refine hn1.out.mono ?_
      rintro e' w2 ⟨rfl, d, rfl⟩
      go_wp2_with fail
      go_ret
      exact ⟨ret_int (by rw [← Hje.out]), HC.out.drewN d⟩
end
end Go.Proofs.YtdepejneliacpaaGreatDoor.cq

/- Layer 10: a queue begins. -/
namespace Go.Proofs.YtdepejneliacpaaGreatDoor.cq
open Go.ChangeShapes Go.WideShapes Go.ChangeAt Go.RowKit Go.ChangeMaps
open Go.Proofs.YtdepejneliacpaaGreatDoor.dk Go.Proofs.YtdepejneliacpaaGreatDoor.sg Go.Proofs.YtdepejneliacpaaGreatDoor.en Go.Proofs.YtdepejneliacpaaGreatDoor.nm

/-- The queue's key and the queues, throughout a region. -/
structure Bh (B : ByteArray → Option ByteArray) (W : World) (g p mb n c m : Nat) (D : DiskS) (es : List Qe) (w0 : World) (b : Nat) (t : ByteArray) (q : Nat) (w : World) : Prop where
  at_ : ∃ F, CqAt B W g p mb n c m D F es w
  kept : KeptQ w0 w
  key : w.heap[b]? = some (.cells #[.string t, .int .i64 (q : Int)] 119 (0, 0))
theorem oth_which : OthQ 119 := by unfold OthQ; decide
theorem Bh.next {B : ByteArray → Option ByteArray} {W w0 w w' : World} {g p mb n c m b q : Nat} {D : DiskS} {es : List Qe} {t : ByteArray} (h : Bh B W g p mb n c m D es w0 b t q w) (hc : Calm w w') : Bh B W g p mb n c m D es w0 b t q w' :=
  ⟨(by obtain ⟨F, h1⟩ := h.at_; exact ⟨F, h1.cale hc⟩), h.kept.trans (.calm hc), heap_calm hc h.key⟩
theorem Bh.cells {B : ByteArray → Option ByteArray} {W w0 w : World} {g p mb n c m b q : Nat} {D : DiskS} {es : List Qe} {t : ByteArray} (h : Bh B W g p mb n c m D es w0 b t q w) : w.cell? ⟨g, 0, none⟩ = some (ptrTo p) ∧ w.cell? ⟨g, 1, none⟩ = some (.map (some mb)) ∧ g < w.heap.size ∧ w.cell? ⟨b, 0, none⟩ = some (.string t) ∧ w.cell? ⟨b, 1, none⟩ = some (.int .i64 (q : Int)) ∧ b < w.heap.size ∧ True ∧ True ∧ True ∧ True := by
  obtain ⟨F, h1⟩ := h.at_
  exact ⟨cell_of h1.obj 0, cell_of h1.obj 1, heap_lt h1.obj, cell_of h.key 0, cell_of h.key 1, heap_lt h.key, trivial, trivial, trivial, trivial⟩
/-- The queue's key and the queues' block alone. -/
structure Bk (g p mb b : Nat) (t : ByteArray) (q : Nat) (w : World) : Prop where
  obj : w.heap[g]? = some (.cells #[ptrTo p, .map (some mb)] 108 (0, 0))
  key : w.heap[b]? = some (.cells #[.string t, .int .i64 (q : Int)] 119 (0, 0))
theorem Bk.cells {w : World} {g p mb b q : Nat} {t : ByteArray} (h : Bk g p mb b t q w) : w.cell? ⟨g, 0, none⟩ = some (ptrTo p) ∧ w.cell? ⟨g, 1, none⟩ = some (.map (some mb)) ∧ g < w.heap.size ∧ w.cell? ⟨b, 0, none⟩ = some (.string t) ∧ w.cell? ⟨b, 1, none⟩ = some (.int .i64 (q : Int)) ∧ b < w.heap.size ∧ True ∧ True ∧ True ∧ True :=
  ⟨cell_of h.obj 0, cell_of h.obj 1, heap_lt h.obj, cell_of h.key 0, cell_of h.key 1, heap_lt h.key, trivial, trivial, trivial, trivial⟩
section
variable {B : ByteArray → Option ByteArray} {W w w' : World} {g p mb n c m r : Nat} {D : DiskS} {R : RowS} {F : Nat → Prop} {v : Value} {es l1 l2 : List Qe} {e : Qe} {t : ByteArray} {k : Int}
/-- A new queue, as it is to be. -/
def newQ (t : ByteArray) (q k x r : Nat) (v : Value) : Qe := ⟨⟨t, q, k, k, []⟩, x, r, ⟨headQ t q, 200, 0, 0, 0, 0⟩, v⟩
theorem newQ_rowed (t : ByteArray) (q k x r : Nat) (v : Value) (ht : t.size ≤ 100) (hq : q < 3) (hk : k ≤ 1099511627776) : Rowed (newQ t q k x r v).R (newQ t q k x r v).q :=
  ⟨rfl, rfl, rfl, Nat.le_refl _, Nat.le_refl _, Nat.zero_le _, .inl (Nat.zero_le _), fun p hp => (by cases hp), ht, hq, hk, Nat.zero_le _⟩
/-- A row that was opened becomes a queue's. -/
theorem CqAt.open_new {w1 w2 w3 : World} {F' : Nat → Prop} {q k x : Nat} (h : CqAt B W g p mb n c m D F es w1) (hL : Lw W r p n c m D ⟨headQ t q, 200, 0, 0, 0, 0⟩ [] F' v w2) (hr : w1.heap.size ≤ r) (hv : ∀ g, v.ownBlock = some g → w1.heap.size ≤ g) (hs : Step F w1 F' w2)
    (ht : t.size ≤ 100) (hq : q < 3) (hk : k ≤ 1099511627776) (hno : ∀ e ∈ es, ¬ e.q.is t (q : Int)) (hx : w3.heap[x]? = some (.cells #[ptrTo r, .int .i64 (k : Int), .int .i64 (k : Int)] 126 (0, 0))) (hc : Calm w2 w3) (hx2 : w2.heap.size ≤ x) :
    ∃ o, (Instr.mapUpdate 106 (.map (some mb)) (.agg #[.string t, .int .i64 (q : Int)]) (ptrTo x)).run Tryz.prog w3 = .ok () (setBlock w3 mb o) ∧ CqAt B W g p mb n c m D F' (es ++ [newQ t q k x r v]) (setBlock w3 mb o) ∧ KeptQ w1 (setBlock w3 mb o) := by
  obtain ⟨h2, hk2⟩ := h.stepped hs hL.seg.disk
  have h3 := h2.cale hc
  obtain ⟨o, ho, hmap⟩ := h3.map.add which_law Tryz.underlying106 (ptrTo x) (wkey_of (t := t) (n := (q : Int)) (by unfold maxLen; omega) (by
    unfold Lit.wf
    simp [IntKind.min, IntKind.max, IntKind.bits, IntKind.signed]
    omega)) (fun y hy e => by
    obtain ⟨a, ha, rfl⟩ := List.mem_map.1 hy
    exact hno a ha (wkey_inj e))
  have hnew : QOk W p n c m D F' w3 (newQ t q k x r v) := ⟨hL.calm hc, hx, newQ_rowed t q k x r v ht hq hk, Nat.le_trans h2.calm.size hx2⟩
  have hoff : ∀ a ∈ es, a.Off (newQ t q k x r v) := fun a ha => by
    refine ⟨⟨?_, ?_, fun b hb hb2 => ?_⟩, fun e => hno a ha ⟨e.1, by rw [e.2]; rfl⟩⟩
    · intro e
      have h5 := heap_lt (h2.rows a ha).obj
      have h6 : a.x = x := e
      omega
    · intro e
      have h5 := heap_lt (h.rows a ha).lw.seg.row.at_
      have h6 : a.r = r := e
      omega
    · have h5 := ((h.rows a ha).lw.seg.row.row.lt b hb).2
      have h6 := hv b hb2
      omega
  obtain ⟨h4, hk4⟩ := h3.added (e := newQ t q k x r v) hnew hoff hmap
  exact ⟨o, ho, h4, (hk2.trans (.calm hc)).trans hk4⟩
set_option maxRecDepth 100000 in
set_option maxHeartbeats 2000000 in
theorem begun_any (h : CqAt B W g p mb n c m D F es w) (t : ByteArray) (q k : Nat) (ht : t.size ≤ 100) (hq : q < 3) (hk : k ≤ 1099511627776) (hno : ∀ e ∈ es, ¬ e.q.is t (q : Int)) (hn : n ≤ 1000000) (hm : m ≤ 1000000) :
    Calls Tryz.prog 62 #[ptrTo g, .agg #[.string t, .int .i64 (q : Int)], .int .i64 (k : Int)] w fun e' w' => ∃ x r v F', e' = .returned (.tuple #[ptrTo x, .int .i64 0]) ∧ CqAt B W g p mb n c m D F' (es ++ [newQ t q k x r v]) w' ∧ KeptQ w w' := by
  obtain ⟨wa, hwa⟩ : ∃ wa, w.alloc (.cells #[.string t, .int .i64 (q : Int)] 119) = wa := ⟨_, rfl⟩
  have hc : Calm w wa := by rw [← hwa]; exact (Calm.refl w).alloc _
  have hkey : wa.heap[w.heap.size]? = some (.cells #[.string t, .int .i64 (q : Int)] 119 (0, 0)) := by rw [← hwa]; exact heap_new w _
  have ha := h.cale hc
  have HB := box (show Bh B W g p mb n c m D es w w.heap.size t q wa.drew from ⟨⟨F, ha.cale ((Calm.refl wa).drewN 1)⟩, .calm (hc.trans ((Calm.refl wa).drewN 1)), hkey⟩)
  have hb0 := (show Bh B W g p mb n c m D es w w.heap.size t q wa from ⟨⟨F, ha⟩, .calm hc, hkey⟩).cells
  obtain ⟨dg, hdg⟩ : ∃ dg, UInt8.ofNat (48 + q) = dg := ⟨_, rfl⟩
  have hit := box (fun (W' : World) (hx : ∃ F, CqAt B W g p mb n c m D F es W') => (show Calls Tryz.prog _ #[.int .i64 (q : Int)] W' (fun e w' => e = .returned (.string ⟨#[dg]⟩) ∧ Calm W' w') from by
    obtain ⟨F1, h2⟩ := hx
    have h1 := Tryz.strconv_Itoa (q : Int) (by omega) (by omega) W' (tab_calm h2.tab h2.calm)
    rw [itoa_dig hq, hdg] at h1
    refine h1.mono ?_
    rintro e w1 ⟨rfl, j, os, rfl⟩
    exact ⟨rfl, calm_grown W' j os⟩))
  have hopn := box (fun (W' : World) (F1 : Nat → Prop) (h2 : CqAt B W g p mb n c m D F1 es W') => (show Calls Tryz.prog 82 #[ptrTo p, .string ((⟨#[113, 45]⟩ : ByteArray) ++ t ++ (⟨#[46]⟩ : ByteArray) ++ (⟨#[dg]⟩ : ByteArray) ++ (⟨#[45]⟩ : ByteArray)), .int .i64 200] W' (fun e w' => ∃ r F' v, e = .returned (.tuple #[ptrTo r, .int .i64 0]) ∧ W'.heap.size ≤ r ∧ Lw W r p n c m D ⟨headQ t q, 200, 0, 0, 0, 0⟩ [] F' v w' ∧ (∀ g, v.ownBlock = some g → W'.heap.size ≤ g) ∧ Step F1 W' F' w') from by
    rw [← hdg]
    exact open_law (R := ⟨headQ t q, 200, 0, 0, 0, 0⟩) (b := []) h2.disk h2.tab h2.calm h2.fW hn h2.able hm (Holds.none (by decide) (by rw [headQ_size]; omega) (h2.fresh hq (fun e he hx => hno e he ⟨hx.1, by rw [hx.2]⟩)))))
  have hsz : t.size ≤ 100 := ht
  have z1 : (9223372036854775807 < 2 + t.size) = False := eq_false (by omega)
  have z2 : (9223372036854775807 < 2 + t.size + 1) = False := eq_false (by omega)
  have z3 : (9223372036854775807 < 2 + t.size + 1 + 1) = False := eq_false (by omega)
  have z4 : (9223372036854775807 < 2 + t.size + 1 + 1 + 1) = False := eq_false (by omega)
  have Hno := box hno
  clear hdg
  obtain ⟨c0, c1, clt, c2, c3, blt, _⟩ := hb0
  clear h hno ha hc hkey
  go_enter Tryz.func62, Tryz.ntmps62
  go_wp2_with fail
  (try rw [hwa])
  refine wp_region_held_drew (S := fun W' => Box (Bh B W g p mb n c m D es w w.heap.size t q W')) (by kernel_rfl) HB (fun g0 => ?_)
  ((refine' wpAnyH_take (i := 0) (v := _) rfl (by kernel_rfl) (by kernel_rfl) (by kernel_rfl) (fun _ _ _ h => h) (Or.inl ⟨by rfl, ?hy17⟩) (by assumption) ?rest17; (case hy17 => (intro w hSw; obtain ⟨hz0, hz1, hz2, hz3, hz4, hz5, hz6, hz7, hz8, hz9⟩ := hSw.out.cells; go_simp <;> with_reducible rfl)); simp only [List.getElem_toArray, List.getElem_cons_succ, List.getElem_cons_zero, Act.put, List.setIfInBounds_toArray, List.set_cons_zero, List.set_cons_succ]); (refine' wpAnyH_take (i := 1) (v := _) rfl (by kernel_rfl) (by kernel_rfl) (by kernel_rfl) (fun _ _ _ h => h) (Or.inl ⟨by rfl, ?hy18⟩) (by assumption) ?rest18; (case hy18 => (intro w hSw; obtain ⟨hz0, hz1, hz2, hz3, hz4, hz5, hz6, hz7, hz8, hz9⟩ := hSw.out.cells; go_simp <;> with_reducible rfl)); simp only [List.getElem_toArray, List.getElem_cons_succ, List.getElem_cons_zero, Act.put, List.setIfInBounds_toArray, List.set_cons_zero, List.set_cons_succ]); (refine' wpAnyH_take (i := 2) (v := _) rfl (by kernel_rfl) (by kernel_rfl) (by kernel_rfl) (fun _ _ _ h => h) (Or.inl ⟨by rfl, ?hy19⟩) (by assumption) ?rest19; (case hy19 => (intro w hSw; obtain ⟨hz0, hz1, hz2, hz3, hz4, hz5, hz6, hz7, hz8, hz9⟩ := hSw.out.cells; go_simp <;> with_reducible rfl)); simp only [List.getElem_toArray, List.getElem_cons_succ, List.getElem_cons_zero, Act.put, List.setIfInBounds_toArray, List.set_cons_zero, List.set_cons_succ]); (refine' wpAnyH_take (i := 3) (v := _) rfl (by kernel_rfl) (by kernel_rfl) (by kernel_rfl) (fun _ _ _ h => h) (Or.inl ⟨by rfl, ?hy20⟩) (by assumption) ?rest20; (case hy20 => (intro w hSw; obtain ⟨hz0, hz1, hz2, hz3, hz4, hz5, hz6, hz7, hz8, hz9⟩ := hSw.out.cells; go_simp <;> with_reducible rfl)); simp only [List.getElem_toArray, List.getElem_cons_succ, List.getElem_cons_zero, Act.put, List.setIfInBounds_toArray, List.set_cons_zero, List.set_cons_succ]); (refine' wpAnyH_take (i := 4) (v := _) rfl (by kernel_rfl) (by kernel_rfl) (by kernel_rfl) (fun _ _ _ h => h) (Or.inl ⟨by rfl, ?hy21⟩) (by assumption) ?rest21; (case hy21 => (intro w hSw; obtain ⟨hz0, hz1, hz2, hz3, hz4, hz5, hz6, hz7, hz8, hz9⟩ := hSw.out.cells; go_simp <;> with_reducible rfl)); simp only [List.getElem_toArray, List.getElem_cons_succ, List.getElem_cons_zero, Act.put, List.setIfInBounds_toArray, List.set_cons_zero, List.set_cons_succ]); (refine' wpAnyH_take (i := 5) (v := _) rfl (by kernel_rfl) (by kernel_rfl) (by kernel_rfl) (fun _ _ _ h => h) (Or.inl ⟨by rfl, ?hy22⟩) (by assumption) ?rest22; (case hy22 => (intro w hSw; obtain ⟨hz0, hz1, hz2, hz3, hz4, hz5, hz6, hz7, hz8, hz9⟩ := hSw.out.cells; go_simp <;> with_reducible rfl)); simp only [List.getElem_toArray, List.getElem_cons_succ, List.getElem_cons_zero, Act.put, List.setIfInBounds_toArray, List.set_cons_zero, List.set_cons_succ]); (refine' wpAnyH_take (i := 6) (v := _) rfl (by kernel_rfl) (by kernel_rfl) (by kernel_rfl) (fun _ _ _ h => h) (Or.inl ⟨by rfl, ?hy23⟩) (by assumption) ?rest23; (case hy23 => (intro w hSw; obtain ⟨hz0, hz1, hz2, hz3, hz4, hz5, hz6, hz7, hz8, hz9⟩ := hSw.out.cells; go_simp <;> with_reducible rfl)); simp only [List.getElem_toArray, List.getElem_cons_succ, List.getElem_cons_zero, Act.put, List.setIfInBounds_toArray, List.set_cons_zero, List.set_cons_succ]); (refine' wpAnyH_take (i := 7) (v := _) rfl (by kernel_rfl) (by kernel_rfl) (by kernel_rfl) (fun _ _ _ h => h) (Or.inl ⟨by rfl, ?hy24⟩) (by assumption) ?rest24; (case hy24 => (intro w hSw; obtain ⟨hz0, hz1, hz2, hz3, hz4, hz5, hz6, hz7, hz8, hz9⟩ := hSw.out.cells; go_simp <;> with_reducible rfl)); simp only [List.getElem_toArray, List.getElem_cons_succ, List.getElem_cons_zero, Act.put, List.setIfInBounds_toArray, List.set_cons_zero, List.set_cons_succ]); (refine' wpAnyH_take (i := 8) (v := _) rfl (by kernel_rfl) (by kernel_rfl) (by kernel_rfl) (fun _ _ _ h => h) (Or.inl ⟨by rfl, ?hy25⟩) (by assumption) ?rest25; (case hy25 => (intro w hSw; obtain ⟨hz0, hz1, hz2, hz3, hz4, hz5, hz6, hz7, hz8, hz9⟩ := hSw.out.cells; go_simp <;> with_reducible rfl)); simp only [List.getElem_toArray, List.getElem_cons_succ, List.getElem_cons_zero, Act.put, List.setIfInBounds_toArray, List.set_cons_zero, List.set_cons_succ]); (refine' wpAnyH_take (i := 9) (v := _) rfl (by kernel_rfl) (by kernel_rfl) (by kernel_rfl) (fun _ _ _ h => h) (Or.inl ⟨by rfl, ?hy26⟩) (by assumption) ?rest26; (case hy26 => (intro w hSw; obtain ⟨hz0, hz1, hz2, hz3, hz4, hz5, hz6, hz7, hz8, hz9⟩ := hSw.out.cells; go_simp <;> with_reducible rfl)); simp only [List.getElem_toArray, List.getElem_cons_succ, List.getElem_cons_zero, Act.put, List.setIfInBounds_toArray, List.set_cons_zero, List.set_cons_succ]))
  refine wpAnyH_ready (rs := [10]) (by kernel_rfl) (by simp) ?_
  refine AllReadyH.cons rfl (fun K hK => ?_) AllReadyH.nil
  rw [if_pos (by rfl)]
  go_simp
  refine (hit.out _ g0.out.at_).mono ?_
  rintro e w1 ⟨rfl, hb1⟩
  have h1 := box (g0.out.next hb1)
  clear hb1
  go_wp2_with fail
  refine hK.out _ _ h1 (fun g1 => ?_)
  clear hK K
  try simp only [List.getElem_toArray, List.getElem_cons_succ, List.getElem_cons_zero, Act.put, List.setIfInBounds_toArray, List.set_cons_zero, List.set_cons_succ]
  ((refine' wpAnyH_take (i := 11) (v := _) rfl (by kernel_rfl) (by kernel_rfl) (by kernel_rfl) (fun _ _ _ h => h) (Or.inl ⟨by rfl, ?hy27⟩) (by assumption) ?rest27; (case hy27 => (intro w hSw; obtain ⟨hz0, hz1, hz2, hz3, hz4, hz5, hz6, hz7, hz8, hz9⟩ := hSw.out.cells; go_simp <;> with_reducible rfl)); simp only [List.getElem_toArray, List.getElem_cons_succ, List.getElem_cons_zero, Act.put, List.setIfInBounds_toArray, List.set_cons_zero, List.set_cons_succ]); (refine' wpAnyH_take (i := 12) (v := _) rfl (by kernel_rfl) (by kernel_rfl) (by kernel_rfl) (fun _ _ _ h => h) (Or.inl ⟨by rfl, ?hy28⟩) (by assumption) ?rest28; (case hy28 => (intro w hSw; obtain ⟨hz0, hz1, hz2, hz3, hz4, hz5, hz6, hz7, hz8, hz9⟩ := hSw.out.cells; go_simp <;> with_reducible rfl)); simp only [List.getElem_toArray, List.getElem_cons_succ, List.getElem_cons_zero, Act.put, List.setIfInBounds_toArray, List.set_cons_zero, List.set_cons_succ]))
  obtain ⟨F1, hF1⟩ := g1.out.at_
  have HF1 := box hF1
  have hop1 := box (hopn.out _ F1 hF1)
  clear hF1
  refine wpAnyH_ready (rs := [13]) (by kernel_rfl) (by simp) ?_
  refine AllReadyH.cons rfl (fun K hK => ?_) AllReadyH.nil
  rw [if_pos (by rfl)]
  go_simp
  refine hop1.out.mono ?_
  rintro e' w2 ⟨r, F2, v2, rfl, hr, hL, hv, hs⟩
  obtain ⟨h2, hk2⟩ := HF1.out.stepped hs hL.seg.disk
  have H2 := box h2
  have B2 := box (show Bh B W g p mb n c m D es w w.heap.size t q w2 from ⟨⟨F2, h2⟩, g1.out.kept.trans hk2, hk2 _ oth_which (by decide) _ _ g1.out.key⟩)
  have HL := box hL
  have Hr := box hr
  have Hv := box hv
  have Hs := box hs
  clear hL hr hv hs h2 hk2 hop1
  go_wp2_with fail
  refine hK.out _ _ B2 (fun g2 => ?_)
  clear hK K
  try simp only [List.getElem_toArray, List.getElem_cons_succ, List.getElem_cons_zero, Act.put, List.setIfInBounds_toArray, List.set_cons_zero, List.set_cons_succ]
  ((refine' wpAnyH_take (i := 14) (v := _) rfl (by kernel_rfl) (by kernel_rfl) (by kernel_rfl) (fun _ _ _ h => h) (Or.inl ⟨by rfl, ?hy29⟩) (by assumption) ?rest29; (case hy29 => (intro w hSw; (try dsimp only at hSw); go_simp <;> with_reducible rfl)); simp only [List.getElem_toArray, List.getElem_cons_succ, List.getElem_cons_zero, Act.put, List.setIfInBounds_toArray, List.set_cons_zero, List.set_cons_succ]); (refine' wpAnyH_take (i := 15) (v := _) rfl (by kernel_rfl) (by kernel_rfl) (by kernel_rfl) (fun _ _ _ h => h) (Or.inl ⟨by rfl, ?hy30⟩) (by assumption) ?rest30; (case hy30 => (intro w hSw; (try dsimp only at hSw); go_simp <;> with_reducible rfl)); simp only [List.getElem_toArray, List.getElem_cons_succ, List.getElem_cons_zero, Act.put, List.setIfInBounds_toArray, List.set_cons_zero, List.set_cons_succ]); (refine' wpAnyH_take (i := 16) (v := _) rfl (by kernel_rfl) (by kernel_rfl) (by kernel_rfl) (fun _ _ _ h => h) (Or.inl ⟨by rfl, ?hy31⟩) (by assumption) ?rest31; (case hy31 => (intro w hSw; (try dsimp only at hSw); go_simp <;> with_reducible rfl)); simp only [List.getElem_toArray, List.getElem_cons_succ, List.getElem_cons_zero, Act.put, List.setIfInBounds_toArray, List.set_cons_zero, List.set_cons_succ]); (refine' wpAnyH_take (i := 17) (v := _) rfl (by kernel_rfl) (by kernel_rfl) (by kernel_rfl) (fun _ _ _ h => h) (Or.inl ⟨by rfl, ?hy32⟩) (by assumption) ?rest32; (case hy32 => (intro w hSw; (try dsimp only at hSw); go_simp <;> with_reducible rfl)); simp only [List.getElem_toArray, List.getElem_cons_succ, List.getElem_cons_zero, Act.put, List.setIfInBounds_toArray, List.set_cons_zero, List.set_cons_succ]); (refine' wpAnyH_take (i := 18) (v := _) rfl (by kernel_rfl) (by kernel_rfl) (by kernel_rfl) (fun _ _ _ h => h) (Or.inl ⟨by rfl, ?hy33⟩) (by assumption) ?rest33; (case hy33 => (intro w hSw; (try dsimp only at hSw); go_simp <;> with_reducible rfl)); simp only [List.getElem_toArray, List.getElem_cons_succ, List.getElem_cons_zero, Act.put, List.setIfInBounds_toArray, List.set_cons_zero, List.set_cons_succ]))
  refine wpAnyH_done (by kernel_rfl) ?_ _
  obtain ⟨wb, hwb⟩ : ∃ wb, w2.alloc (.cells #[ptrTo r, .int .i64 (k : Int), .int .i64 (k : Int)] 126) = wb := ⟨_, rfl⟩
  have hcb : Calm w2 wb := by rw [← hwb]; exact (Calm.refl w2).alloc _
  have hxb : wb.heap[w2.heap.size]? = some (.cells #[ptrTo r, .int .i64 (k : Int), .int .i64 (k : Int)] 126 (0, 0)) := by rw [← hwb]; exact heap_new w2 _
  obtain ⟨o, ho, hfin, hkf⟩ := HF1.out.open_new HL.out Hr.out Hv.out Hs.out ht hq hk Hno.out (w3 := wb.drew) hxb (hcb.trans ((Calm.refl wb).drewN 1)) (Nat.le_refl _)
  have hb3 := B2.out.next (hcb.trans ((Calm.refl wb).drewN 1))
  have B3 := box (show Bk g p mb w.heap.size t q wb.drew from ⟨(by obtain ⟨F4, h4⟩ := hb3.at_; exact h4.obj), hb3.key⟩)
  have hmne : g ≠ mb ∧ w.heap.size ≠ mb := by
    obtain ⟨F4, h4⟩ := hb3.at_
    exact ⟨map_cells h4.map h4.obj, map_cells h4.map hb3.key⟩
  have B4 := box (show Bk g p mb w.heap.size t q (setBlock wb.drew mb o) from ⟨(heap_put_other _ _ hmne.1).trans B3.out.obj, (heap_put_other _ _ hmne.2).trans B3.out.key⟩)
  have Hfin := box hfin
  have Hkf := box (g1.out.kept.trans hkf)
  clear hcb hxb hfin hkf hb3 hmne
  clear c0 c1 clt c2 c3 blt
  obtain ⟨c0, c1, clt, c2, c3, blt, _⟩ := (B2.out.next ((Calm.refl w2).alloc (.cells #[ptrTo r, .int .i64 (k : Int), .int .i64 (k : Int)] 126))).cells
  go_upto_region 5 with fail
  (try rw [hwb])
  refine wp_region_held_drew (S := fun W' => Box (Bk g p mb w.heap.size t q W')) (by kernel_rfl) B3 (fun g3 => ?_)
  ((refine' wpAnyH_take (i := 0) (v := _) rfl (by kernel_rfl) (by kernel_rfl) (by kernel_rfl) (fun _ _ _ h => h) (Or.inl ⟨by rfl, ?hy34⟩) (by assumption) ?rest34; (case hy34 => (intro w hSw; obtain ⟨hz0, hz1, hz2, hz3, hz4, hz5, hz6, hz7, hz8, hz9⟩ := hSw.out.cells; go_simp <;> with_reducible rfl)); simp only [List.getElem_toArray, List.getElem_cons_succ, List.getElem_cons_zero, Act.put, List.setIfInBounds_toArray, List.set_cons_zero, List.set_cons_succ]); (refine' wpAnyH_take (i := 1) (v := _) rfl (by kernel_rfl) (by kernel_rfl) (by kernel_rfl) (fun _ _ _ h => h) (Or.inl ⟨by rfl, ?hy35⟩) (by assumption) ?rest35; (case hy35 => (intro w hSw; obtain ⟨hz0, hz1, hz2, hz3, hz4, hz5, hz6, hz7, hz8, hz9⟩ := hSw.out.cells; go_simp <;> with_reducible rfl)); simp only [List.getElem_toArray, List.getElem_cons_succ, List.getElem_cons_zero, Act.put, List.setIfInBounds_toArray, List.set_cons_zero, List.set_cons_succ]); (refine' wpAnyH_take (i := 2) (v := _) rfl (by kernel_rfl) (by kernel_rfl) (by kernel_rfl) (fun _ _ _ h => h) (Or.inl ⟨by rfl, ?hy36⟩) (by assumption) ?rest36; (case hy36 => (intro w hSw; obtain ⟨hz0, hz1, hz2, hz3, hz4, hz5, hz6, hz7, hz8, hz9⟩ := hSw.out.cells; go_simp <;> with_reducible rfl)); simp only [List.getElem_toArray, List.getElem_cons_succ, List.getElem_cons_zero, Act.put, List.setIfInBounds_toArray, List.set_cons_zero, List.set_cons_succ]); (refine' wpAnyH_take (i := 3) (v := _) rfl (by kernel_rfl) (by kernel_rfl) (by kernel_rfl) (fun _ _ _ h => h) (Or.inl ⟨by rfl, ?hy37⟩) (by assumption) ?rest37; (case hy37 => (intro w hSw; obtain ⟨hz0, hz1, hz2, hz3, hz4, hz5, hz6, hz7, hz8, hz9⟩ := hSw.out.cells; go_simp <;> with_reducible rfl)); simp only [List.getElem_toArray, List.getElem_cons_succ, List.getElem_cons_zero, Act.put, List.setIfInBounds_toArray, List.set_cons_zero, List.set_cons_succ]); (refine' wpAnyH_take (i := 4) (v := _) rfl (by kernel_rfl) (by kernel_rfl) (by kernel_rfl) (fun _ _ _ h => h) (Or.inl ⟨by rfl, ?hy38⟩) (by assumption) ?rest38; (case hy38 => (intro w hSw; obtain ⟨hz0, hz1, hz2, hz3, hz4, hz5, hz6, hz7, hz8, hz9⟩ := hSw.out.cells; go_simp <;> with_reducible rfl)); simp only [List.getElem_toArray, List.getElem_cons_succ, List.getElem_cons_zero, Act.put, List.setIfInBounds_toArray, List.set_cons_zero, List.set_cons_succ]); (refine' wpAnyH_take (i := 5) (v := _) rfl (by kernel_rfl) (by kernel_rfl) (by kernel_rfl) (fun _ _ _ h => h) (Or.inl ⟨by rfl, ?hy39⟩) (by assumption) ?rest39; (case hy39 => (intro w hSw; obtain ⟨hz0, hz1, hz2, hz3, hz4, hz5, hz6, hz7, hz8, hz9⟩ := hSw.out.cells; go_simp <;> with_reducible rfl)); simp only [List.getElem_toArray, List.getElem_cons_succ, List.getElem_cons_zero, Act.put, List.setIfInBounds_toArray, List.set_cons_zero, List.set_cons_succ]))
  refine wpAnyH_ready (rs := [6]) (by kernel_rfl) (by simp) ?_
  refine AllReadyH.cons rfl (fun K hK => ?_) AllReadyH.nil
  rw [if_pos (by rfl)]
  go_simp
  refine hK.out _ _ B4 (fun g4 => ?_)
  clear hK K
  try simp only [List.getElem_toArray, List.getElem_cons_succ, List.getElem_cons_zero, Act.put, List.setIfInBounds_toArray, List.set_cons_zero, List.set_cons_succ]
  refine wpAnyH_done (by kernel_rfl) ?_ _
  go_wp2_with fail
  go_ret2
  exact ⟨_, _, _, _, rfl, Hfin.out, Hkf.out⟩
end
end Go.Proofs.YtdepejneliacpaaGreatDoor.cq
