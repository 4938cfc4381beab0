/- Layer 4: how a disk lies in memory; the fuse; what bars a call; Create. -/
import Derived.Test.YtbmhjojlbmbpkaaDiskM
import Derived.Test.YtbmhjojlbmbpkaaMap
namespace Go.Proofs.Ytbmhjojlbmbpkaa.dk
open Go.ChangeShapes Go.WideShapes Go.ChangeAt Go.RowKit

abbrev ptrTo (b : Nat) : Value := .pointer (some ⟨b, 0, none⟩)
def encF (f : FileS) : Value × Value := (.string f.name, ptrTo f.blk)
def encW (x : WaitS) : List Value := [ptrTo x.blk, .int .i64 x.off, .string x.s]
def diskCells (D : DiskS) (mb : Nat) (wv : Value) : Array Value := #[.int .i64 D.left, .bool D.down, .map (some mb), wv, .int .i64 D.cap]

/-- A disk lies at p: its map at mb, its waiting writes under the slice wv. -/
structure DiskIn (w : World) (p mb : Nat) (wv : Value) (D : DiskS) : Prop where
  obj : w.heap[p]? = some (.cells (diskCells D mb wv) 76 (0, 0))
  map : MapIs w mb .string (D.files.map encF)
  files : ∀ f ∈ D.files, w.heap[f.blk]? = some (.cells #[.string f.image, .string f.now] 80 (0, 0))
  waits : w.ownsRow 0 83 3 wv D.waits.length (D.waits.flatMap encW)
  blks : (D.files.map (·.blk)).Nodup
  live : ∀ x ∈ D.waits, ∃ f ∈ D.files, f.blk = x.blk

def foot (p mb : Nat) (wv : Value) (D : DiskS) (b : Nat) : Prop := b = p ∨ b = mb ∨ wv.ownBlock = some b ∨ b ∈ D.files.map (·.blk)
def DiskAt (w : World) (p : Nat) (D : DiskS) (F : Nat → Prop) : Prop := ∃ mb wv, DiskIn w p mb wv D ∧ F = foot p mb wv D

section
variable {w w' : World} {p mb : Nat} {wv : Value} {D : DiskS}
theorem DiskIn.names (h : DiskIn w p mb wv D) : (D.files.map (·.name)).Nodup := by
  have h1 := h.map.nodup
  rw [List.map_map] at h1
  generalize D.files = l at h1
  induction l with
  | nil => simp
  | cons f l ih =>
    rw [List.map_cons, List.nodup_cons] at h1 ⊢
    refine ⟨fun hm => h1.1 ?_, ih h1.2⟩
    obtain ⟨g, hg, he⟩ := List.mem_map.1 hm
    exact List.mem_map.2 ⟨g, hg, by simp [encF, he]⟩
theorem find_some {D : DiskS} {n : ByteArray} {f : FileS} (h : D.find n = some f) : f ∈ D.files ∧ f.name = n := by
  unfold DiskS.find at h
  exact ⟨List.mem_of_find?_eq_some h, by simpa using List.find?_some h⟩
theorem find_none {D : DiskS} {n : ByteArray} (h : D.find n = none) : ∀ f ∈ D.files, f.name ≠ n := by
  unfold DiskS.find at h
  intro f hf he
  have := List.find?_eq_none.1 h f hf
  simp [he] at this
/-- Where the file of a name lies. -/
def DiskS.ptr (D : DiskS) (n : ByteArray) : Option Addr := (D.find n).map fun f => ⟨f.blk, 0, none⟩
theorem ptr_some {D : DiskS} {n : ByteArray} {f : FileS} (h : D.find n = some f) : D.ptr n = some ⟨f.blk, 0, none⟩ := by unfold DiskS.ptr; rw [h]; rfl
theorem ptr_none {D : DiskS} {n : ByteArray} (h : D.find n = none) : D.ptr n = none := by unfold DiskS.ptr; rw [h]; rfl

theorem DiskIn.look (h : DiskIn w p mb wv D) (n : ByteArray) : Sem.run Try.prog (Instr.lookup 73 (.map (some mb)) (.string n) false) w = .ok (.pointer (D.ptr n)) w := by
  cases hf : D.find n with
  | some f =>
    obtain ⟨h1, h2⟩ := find_some hf
    rw [ptr_some hf]
    have := h.map.hit (P := Try.prog) Try.underlying73 Try.underlying9 (key := .string n) (v := ptrTo f.blk) trivial (List.mem_map.2 ⟨f, h1, by simp [encF, h2]⟩) false
    simpa using this
  | none =>
    rw [ptr_none hf]
    have := h.map.miss (P := Try.prog) (z := .pointer none) Try.underlying73 Try.underlying9 (key := .string n) trivial (by kernel_rfl) (fun x hx => by
      obtain ⟨g, hg, rfl⟩ := List.mem_map.1 hx
      simp only [encF, ne_eq, Value.string.injEq]
      exact find_none hf g hg) false
    simpa using this

theorem DiskIn.cells (h : DiskIn w p mb wv D) : w.cell? ⟨p, 0, none⟩ = some (.int .i64 D.left) ∧ w.cell? ⟨p, 1, none⟩ = some (.bool D.down) ∧ w.cell? ⟨p, 2, none⟩ = some (.map (some mb)) ∧ w.cell? ⟨p, 3, none⟩ = some wv ∧ w.cell? ⟨p, 4, none⟩ = some (.int .i64 D.cap) :=
  ⟨cell_of h.obj 0, cell_of h.obj 1, cell_of h.obj 2, cell_of h.obj 3, cell_of h.obj 4⟩
theorem DiskIn.free (h : DiskIn w p mb wv D) : w.frozen? ⟨p, 0, none⟩ = false ∧ w.frozen? ⟨p, 1, none⟩ = false ∧ w.frozen? ⟨p, 2, none⟩ = false ∧ w.frozen? ⟨p, 3, none⟩ = false ∧ w.frozen? ⟨p, 4, none⟩ = false :=
  ⟨free_of h.obj 0, free_of h.obj 1, free_of h.obj 2, free_of h.obj 3, free_of h.obj 4⟩
theorem DiskIn.file (h : DiskIn w p mb wv D) {n : ByteArray} {f : FileS} (hf : D.find n = some f) : w.cell? ⟨f.blk, 0, none⟩ = some (.string f.image) ∧ w.cell? ⟨f.blk, 1, none⟩ = some (.string f.now) ∧ w.frozen? ⟨f.blk, 0, none⟩ = false ∧ w.frozen? ⟨f.blk, 1, none⟩ = false := by
  have := h.files f (find_some hf).1
  exact ⟨cell_of this 0, cell_of this 1, free_of this 0, free_of this 1⟩
theorem DiskIn.calm (h : DiskIn w p mb wv D) (hc : Calm w w') : DiskIn w' p mb wv D := by
  refine ⟨heap_calm hc h.obj, h.map.calm hc, fun f hf => heap_calm hc (h.files f hf), ?_, h.blks, h.live⟩
  obtain ⟨h1, h2⟩ := h.waits
  refine ⟨h1, ?_⟩
  rcases h2 with h2 | ⟨g, cap, cur, r1, r2, r3, r4⟩
  · exact .inl h2
  · exact .inr ⟨g, cap, cur, r1, r2, heap_calm hc r3, r4⟩
theorem DiskAt.calm {F : Nat → Prop} (h : DiskAt w p D F) (hc : Calm w w') : DiskAt w' p D F := by
  obtain ⟨mb, wv, h1, h2⟩ := h; exact ⟨mb, wv, h1.calm hc, h2⟩
/-- The blocks of its foot lie in the world. -/
theorem DiskIn.foot_lt (h : DiskIn w p mb wv D) : ∀ b, foot p mb wv D b → b < w.heap.size := by
  intro b hb
  rcases hb with rfl | rfl | hb | hb
  · exact heap_lt h.obj
  · exact h.map.lt
  · exact (h.waits.lt b hb).2
  · obtain ⟨f, hf, rfl⟩ := List.mem_map.1 hb
    exact heap_lt (h.files f hf)
/-- No two of its parts share a block. -/
theorem DiskIn.p_ne_mb (h : DiskIn w p mb wv D) : p ≠ mb := by
  intro e; obtain ⟨es, c, hb, _⟩ := h.map; rw [← e, h.obj] at hb; cases hb
theorem DiskIn.p_ne_file (h : DiskIn w p mb wv D) {f : FileS} (hf : f ∈ D.files) : f.blk ≠ p := by
  intro e; have := h.files f hf; rw [e, h.obj] at this; simp at this
theorem DiskIn.mb_ne_file (h : DiskIn w p mb wv D) {f : FileS} (hf : f ∈ D.files) : f.blk ≠ mb := by
  intro e; obtain ⟨es, c, hb, _⟩ := h.map; have := h.files f hf; rw [e, hb] at this; cases this
theorem own_row {v : Value} {n : Nat} {xs : List Value} {base : Nat} {e : TypeId} {size g : Nat} (h : w.ownsRow base e size v n xs) (hg : v.ownBlock = some g) : ∃ cur, w.heap[g]? = some (.cells cur e (0, 0)) := by
  rcases h.2 with ⟨rfl, _⟩ | ⟨g', cap, cur, rfl, _, hc, _⟩
  · simp [Value.ownBlock] at hg
  · simp [Value.ownBlock] at hg; subst hg; exact ⟨cur, hc⟩
theorem DiskIn.p_ne_row (h : DiskIn w p mb wv D) : wv.ownBlock ≠ some p := by
  intro e; obtain ⟨cur, hc⟩ := own_row h.waits e; rw [h.obj] at hc; simp at hc
theorem DiskIn.mb_ne_row (h : DiskIn w p mb wv D) : wv.ownBlock ≠ some mb := by
  intro e; obtain ⟨cur, hc⟩ := own_row h.waits e; obtain ⟨es, c, hb, _⟩ := h.map; rw [hb] at hc; cases hc
theorem DiskIn.file_ne_row (h : DiskIn w p mb wv D) {f : FileS} (hf : f ∈ D.files) : wv.ownBlock ≠ some f.blk := by
  intro e; obtain ⟨cur, hc⟩ := own_row h.waits e; rw [h.files f hf] at hc; simp at hc

theorem row_same {v : Value} {n : Nat} {xs : List Value} {base : Nat} {e : TypeId} {size : Nat} (h : w.ownsRow base e size v n xs) (hs : ∀ g, v.ownBlock = some g → w'.heap[g]? = w.heap[g]?) : w'.ownsRow base e size v n xs := by
  obtain ⟨h1, h2⟩ := h
  refine ⟨h1, ?_⟩
  rcases h2 with h2 | ⟨g, cap, cur, rfl, r2, r3, r4⟩
  · exact .inl h2
  · exact .inr ⟨g, cap, cur, rfl, r2, (hs g rfl).trans r3, r4⟩

/-- The numbers of the disk's own block turn: a store into cell k of p. -/
theorem DiskIn.setObj (h : DiskIn w p mb wv D) {D' : DiskS} (k : Nat) (v : Value) (hc : (diskCells D mb wv).setIfInBounds k v = diskCells D' mb wv) (hf : D'.files = D.files) (hw : D'.waits = D.waits) :
    DiskIn (w.setCell ⟨p, k, none⟩ v) p mb wv D' := by
  refine ⟨?_, ?_, ?_, ?_, by rw [hf]; exact h.blks, by rw [hf, hw]; exact h.live⟩
  · rw [heap_set h.obj, hc]
  · rw [hf]; exact h.map.same (heap_set_other h.p_ne_mb.symm _ _)
  · intro f hf'
    rw [hf] at hf'
    rw [heap_set_other (h.p_ne_file hf')]; exact h.files f hf'
  · rw [hw]; exact row_same h.waits (fun g hg => heap_set_other (fun e => h.p_ne_row (by rw [hg, e])) _ _)

end
end Go.Proofs.Ytbmhjojlbmbpkaa.dk
