/- Footprints: what a call that writes its own objects leaves as it was. -/
import Derived.Test.YtbmhjojlbmbpkaaBase
namespace Go.Proofs.Ytbmhjojlbmbpkaa
open Go.RowKit

theorem nodup_inj {α β : Type} {f : α → β} : ∀ {l : List α}, (l.map f).Nodup → ∀ {x y : α}, x ∈ l → y ∈ l → f x = f y → x = y
  | [], _, _, _, h, _, _ => by cases h
  | a :: l, hn, x, y, hx, hy, he => by
    rw [List.map_cons, List.nodup_cons] at hn
    rcases List.mem_cons.1 hx with hx' | hx'
    · rcases List.mem_cons.1 hy with hy' | hy'
      · rw [hx', hy']
      · exact absurd (List.mem_map.2 ⟨y, hy', by rw [← he, hx']⟩) hn.1
    · rcases List.mem_cons.1 hy with hy' | hy'
      · exact absurd (List.mem_map.2 ⟨x, hx', by rw [he, hy']⟩) hn.1
      · exact nodup_inj hn.2 hx' hy' he
theorem nodup_get {α : Type} {l : List α} (hn : l.Nodup) {i j : Nat} (hi : i < l.length) (hj : j < l.length) (h : l[i] = l[j]) : i = j := by
  unfold List.Nodup at hn
  rw [List.pairwise_iff_getElem] at hn
  rcases Nat.lt_trichotomy i j with g | g | g
  · exact absurd h (hn i j hi hj g)
  · exact g
  · exact absurd h.symm (hn j i hj hi g)

theorem heap_put_other (w : World) {b i : Nat} (o : Obj) (h : i ≠ b) : (ChangeMaps.setBlock w b o).heap[i]? = w.heap[i]? := by
  simp only [ChangeMaps.setBlock, Array.getElem?_setIfInBounds]; rw [if_neg (fun e => h e.symm)]

/-- Of the blocks that lay in w only those of F have turned. -/
structure Keeps (F : Nat → Prop) (w w' : World) : Prop where
  os : w'.os = w.os
  tape : w'.tape = w.tape
  output : w'.output = w.output
  size : w.heap.size ≤ w'.heap.size
  block : ∀ k, k < w.heap.size → ¬ F k → w'.heap[k]? = w.heap[k]?

theorem Keeps.refl (F : Nat → Prop) (w : World) : Keeps F w w := ⟨rfl, rfl, rfl, Nat.le_refl _, fun _ _ _ => rfl⟩
theorem Keeps.mono {F G : Nat → Prop} {w w' : World} (h : Keeps F w w') (g : ∀ b, b < w.heap.size → F b → G b) : Keeps G w w' :=
  ⟨h.os, h.tape, h.output, h.size, fun k hk hn => h.block k hk (fun hf => hn (g k hk hf))⟩
theorem Keeps.trans' {F : Nat → Prop} {a b c : World} (h : Keeps F a b) (k : Keeps F b c) : Keeps F a c :=
  ⟨k.os.trans h.os, k.tape.trans h.tape, k.output.trans h.output, Nat.le_trans h.size k.size,
    fun i hi hn => (k.block i (Nat.lt_of_lt_of_le hi h.size) hn).trans (h.block i hi hn)⟩
theorem Keeps.of_calm {F : Nat → Prop} {w w' : World} (h : Calm w w') : Keeps F w w' := ⟨h.os, h.tape, h.output, h.size, fun k hk _ => h.block k hk⟩
theorem Keeps.calm {F : Nat → Prop} {a b c : World} (h : Keeps F a b) (k : Calm b c) : Keeps F a c := h.trans' (.of_calm k)
theorem Keeps.alloc {F : Nat → Prop} {a w : World} (h : Keeps F a w) (o : Obj) : Keeps F a (w.alloc o) := h.calm ((Calm.refl w).alloc o)
theorem Keeps.drew {F : Nat → Prop} {a w : World} (h : Keeps F a w) : Keeps F a w.drew := ⟨h.os, h.tape, h.output, h.size, h.block⟩
theorem Keeps.setCell {F : Nat → Prop} {a w : World} (h : Keeps F a w) {p : Addr} (hp : F p.block ∨ a.heap.size ≤ p.block) (u : Value) : Keeps F a (w.setCell p u) :=
  ⟨h.os, h.tape, h.output, by simpa [World.setCell] using h.size, fun k hk hn => by
    rw [Below.heap_setCell _ _ _ _ (fun e => by subst e; rcases hp with hp | hp; exact hn hp; omega)]; exact h.block k hk hn⟩
theorem Keeps.grown {F : Nat → Prop} {a w w' : World} {row : Option Nat} (h : Keeps F a w) (hg : w.grownBy w' row) (hr : ∀ k, row = some k → F k ∨ a.heap.size ≤ k) : Keeps F a w' :=
  ⟨hg.os.trans h.os, hg.tape.trans h.tape, hg.output.trans h.output, Nat.le_trans h.size hg.size, fun k hk hn => by
    rw [hg.block k (Nat.lt_of_lt_of_le hk h.size) (fun e => by rcases hr k e.symm with hp | hp; exact hn hp; omega)]; exact h.block k hk hn⟩
theorem Keeps.below {F : Nat → Prop} {B : Nat} {w w' : World} (h : Keeps F w w') (hB : B ≤ w.heap.size) (hF : ∀ b, F b → B ≤ b) : Below B w w' :=
  ⟨h.os, h.tape, h.output, h.size, fun k hk => h.block k (by omega) (fun hf => by have := hF k hf; omega)⟩
theorem Keeps.setObj {F : Nat → Prop} {a w : World} (h : Keeps F a w) {b : Nat} (hp : F b ∨ a.heap.size ≤ b) (o : Obj) : Keeps F a (ChangeMaps.setBlock w b o) :=
  ⟨h.os, h.tape, h.output, by simpa [ChangeMaps.setBlock] using h.size, fun k hk hn => by
    rw [heap_put_other _ _ (fun e => by subst e; rcases hp with hp | hp; exact hn hp; omega)]; exact h.block k hk hn⟩

/-- The blocks of F may have turned; the objects then lie in F', which is F and new blocks. -/
structure Step (F : Nat → Prop) (w : World) (F' : Nat → Prop) (w' : World) : Prop where
  keeps : Keeps F w w'
  foot : ∀ b, F' b → F b ∨ w.heap.size ≤ b

theorem Step.refl (F : Nat → Prop) (w : World) : Step F w F w := ⟨.refl _ _, fun _ h => .inl h⟩
theorem Step.of_calm {F : Nat → Prop} {w w' : World} (h : Calm w w') : Step F w F w' := ⟨.of_calm h, fun _ h => .inl h⟩
theorem Step.trans {F G H : Nat → Prop} {a b c : World} (h : Step F a G b) (k : Step G b H c) : Step F a H c :=
  ⟨⟨k.keeps.os.trans h.keeps.os, k.keeps.tape.trans h.keeps.tape, k.keeps.output.trans h.keeps.output, Nat.le_trans h.keeps.size k.keeps.size,
    fun i hi hn => (k.keeps.block i (Nat.lt_of_lt_of_le hi h.keeps.size) (fun hg => by rcases h.foot i hg with hf | hf; exact hn hf; omega)).trans (h.keeps.block i hi hn)⟩,
   fun b hb => by
    rcases k.foot b hb with hg | hg
    · exact h.foot b hg
    · exact .inr (Nat.le_trans h.keeps.size hg)⟩
theorem Step.calm {F G : Nat → Prop} {a b c : World} (h : Step F a G b) (k : Calm b c) : Step F a G c := h.trans (.of_calm k)
theorem Step.calm_left {F G : Nat → Prop} {a b c : World} (k : Calm a b) (h : Step F b G c) : Step F a G c := (Step.of_calm k).trans h
/-- What lies apart from F lies as it did. -/
theorem Step.same {F G : Nat → Prop} {w w' : World} (h : Step F w G w') {b : Nat} {o : Obj} (hb : w.heap[b]? = some o) (hn : ¬ F b) : w'.heap[b]? = some o := by
  rw [h.keeps.block b (Array.getElem?_eq_some_iff.1 hb).1 hn]; exact hb
theorem Step.below {F G : Nat → Prop} {B : Nat} {w w' : World} (h : Step F w G w') (hB : B ≤ w.heap.size) (hF : ∀ b, F b → B ≤ b) : Below B w w' ∧ ∀ b, G b → B ≤ b :=
  ⟨h.keeps.below hB hF, fun b hb => by rcases h.foot b hb with hf | hf; exact hF b hf; omega⟩

/-! ### Blocks of cells -/
theorem heap_calm {w w' : World} (h : Calm w w') {b : Nat} {o : Obj} (hb : w.heap[b]? = some o) : w'.heap[b]? = some o := by
  rw [h.block b (Array.getElem?_eq_some_iff.1 hb).1]; exact hb
theorem heap_lt {w : World} {b : Nat} {o : Obj} (hb : w.heap[b]? = some o) : b < w.heap.size := (Array.getElem?_eq_some_iff.1 hb).1
theorem cell_of {w : World} {b : Nat} {c : Array Value} {T : TypeId} {fr : Nat × Nat} (h : w.heap[b]? = some (.cells c T fr)) (k : Nat) : w.cell? ⟨b, k, none⟩ = c[k]? := by
  simp [World.cell?, h]
theorem free_of {w : World} {b : Nat} {c : Array Value} {T : TypeId} (h : w.heap[b]? = some (.cells c T (0, 0))) (k : Nat) : w.frozen? ⟨b, k, none⟩ = false := by
  simp [World.frozen?, h]
theorem heap_set {w : World} {b : Nat} {c : Array Value} {T : TypeId} {fr : Nat × Nat} (h : w.heap[b]? = some (.cells c T fr)) (k : Nat) (v : Value) :
    (w.setCell ⟨b, k, none⟩ v).heap[b]? = some (.cells (c.setIfInBounds k v) T fr) := by
  simp only [World.setCell, Array.getElem?_modify, if_pos rfl, h, Option.map_some]; simp
theorem heap_set_other {w : World} {b b' : Nat} (h : b ≠ b') (k : Nat) (v : Value) : (w.setCell ⟨b', k, none⟩ v).heap[b]? = w.heap[b]? :=
  Below.heap_setCell _ _ _ _ h
theorem heap_new (w : World) (o : Obj) : (w.alloc o).heap[w.heap.size]? = some o := heap_alloc_new w o
theorem heap_old (w : World) (o : Obj) {b : Nat} {x : Obj} (h : w.heap[b]? = some x) : (w.alloc o).heap[b]? = some x := by
  rw [Below.heap_alloc w o b (heap_lt h)]; exact h
end Go.Proofs.Ytbmhjojlbmbpkaa
