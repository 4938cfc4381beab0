/- Byte slices that the call itself makes: out of a text, lengthened by noughts, written over, read as a text. -/
import Derived.Test.YtofffmnkoelifaaRows
import Derived.WalkKit
import Derived.ProofKit
import Derived.OpenShut
import Derived.Handy
import Derived.Deep.LoopGhost
import Derived.Lib.Hide
import Derived.Lib.Strings
import Derived.SizedLaws
import Derived.Maps.Own
import Derived.Maps.OwnOps
import Derived.Maps.OwnSet
import Derived.Maps.RangeWalk
import Derived.Deep.Slices
import Derived.Laws.StructEq
import Derived.Deep.RegionHeld3
import Derived.Shelf.Strings.Builder1
import Derived.Shelf.Strings.Builder2
import Derived.Shelf.Small.Bits
import Derived.Shelf.Small.Wraps
import Derived.Shelf.Strings.BuilderF
import Derived.Shelf.Strings.BuilderK
import Derived.Shelf.Strings.Builder2Cap
import Derived.Shelf.Strconv.Itoa0
import Derived.Shelf.Sort.Plain
import Derived.Shelf.GgClosure.StringsIndexFunc
import Derived.Ground.GgwProg
import Derived.Shelf.GgClosure.StringsIndexFuncTop
import Derived.Shelf.GgClosure.StringsRunes
import Derived.Shelf.Strings.Prefix
import Derived.Shelf.Bits.Mul64
import Derived.Shelf.Strings.Repeat
import Derived.Shelf.Strings.BuilderCap
import Derived.Shelf.Slices.Equal
import Derived.Ground.Names2Prog
import Derived.Shelf.Slices.Clone
import Derived.Shelf.Slices.CompactS
import Derived.Shelf.Slices.SearchI
import Derived.Shelf.Slices.Cells
import Derived.Shelf.Slices.In.SortNone
import Derived.Shelf.Slices.Empties2
import Derived.Ground.SlgnProg
import Derived.Shelf.SlicesE.Equal
import Derived.Shelf.SlicesE.Compact
import Derived.Ground.SlgfProg
import Derived.Shelf.SlicesE.IndexFunc
import Derived.Shelf.SlicesE.DeleteFunc
import Derived.Test.YtofffmnkoelifaaProg
import Derived.Sort.Statements
import Derived.Lib.ConvBytes
import Derived.Lib.AppendZeros
import Derived.Lib.AppendZerosOnto
import Derived.Lib.LazyBuf
import Derived.Test.YtofffmnkoelifaaPk8
namespace Go.Proofs.Ytofffmnkoelifaa
open Go.RowKit

abbrev byteV (b : UInt8) : Value := .int .u8 (b.toNat : Int)
/-- Block g holds a row of cap bytes, the first of them l, none of them frozen. -/
structure BufIs (w : World) (g cap : Nat) (l : List UInt8) : Prop where
  cells : ∀ j, j < l.length → w.cell? ⟨g, j, none⟩ = some (byteV (l.getD j 0))
  room : ∀ j, j < cap → (w.cell? ⟨g, j, none⟩).isSome = true
  free : ∀ j, j < cap → w.frozen? ⟨g, j, none⟩ = false
  le : l.length ≤ cap
  lt : g < w.heap.size

theorem BufIs.same {w w' : World} {g cap : Nat} {l : List UInt8} (h : BufIs w g cap l) (hb : w'.heap[g]? = w.heap[g]?) (hl : w.heap.size ≤ w'.heap.size) : BufIs w' g cap l := by
  have hc : ∀ j, w'.cell? ⟨g, j, none⟩ = w.cell? ⟨g, j, none⟩ := fun j => by simp [World.cell?, hb]
  have hf : ∀ j, w'.frozen? ⟨g, j, none⟩ = w.frozen? ⟨g, j, none⟩ := fun j => by simp [World.frozen?, hb]
  exact ⟨fun j hj => (hc j).trans (h.cells j hj), fun j hj => by rw [hc]; exact h.room j hj, fun j hj => (hf j).trans (h.free j hj), h.le, Nat.lt_of_lt_of_le h.lt hl⟩
theorem BufIs.calm {w w' : World} {g cap : Nat} {l : List UInt8} (h : BufIs w g cap l) (hc : Calm w w') : BufIs w' g cap l := h.same (hc.block g h.lt) hc.size

theorem cell_setCells (b : Nat) : ∀ (vs : List Value) (o : Nat) (w : World) (j : Nat), (∀ i, i < vs.length → (w.cell? ⟨b, o + i, none⟩).isSome = true) →
    (w.setCells b o vs).cell? ⟨b, j, none⟩ = if o ≤ j ∧ j < o + vs.length then vs[j - o]? else w.cell? ⟨b, j, none⟩
  | [], o, w, j, _ => by rw [if_neg (by simp <;> omega)]; rfl
  | v :: r, o, w, j, h => by
    have h0 := h 0 (by simp)
    have hr : ∀ i, i < r.length → ((w.setCell ⟨b, o, none⟩ v).cell? ⟨b, o + 1 + i, none⟩).isSome = true := fun i hi => by
      rw [World.cell?_setCell_other _ _ _ _ (by simp <;> omega)]
      have := h (i + 1) (by simp; omega)
      rwa [show o + (i + 1) = o + 1 + i by omega] at this
    rw [World.setCells, cell_setCells b r (o + 1) (w.setCell ⟨b, o, none⟩ v) j hr]
    by_cases hj : o = j
    · subst hj
      rw [if_neg (by omega), if_pos (by simp)]
      obtain ⟨u, hu⟩ := Option.isSome_iff_exists.1 h0
      simp only [Nat.add_zero] at hu
      simp only [Nat.sub_self, List.getElem?_cons_zero]
      exact World.cell?_setCell_same _ _ _ hu
    · by_cases hj2 : o + 1 ≤ j ∧ j < o + 1 + r.length
      · rw [if_pos hj2, if_pos (by simp; omega), show j - o = (j - (o + 1)) + 1 by omega]; simp
      · rw [if_neg hj2, if_neg (by simp; omega), World.cell?_setCell_other _ _ _ _ (by simp <;> omega)]
theorem frozen_setCells (b : Nat) : ∀ (vs : List Value) (o : Nat) (w : World) (a : Addr), (w.setCells b o vs).frozen? a = w.frozen? a
  | [], _, _, _ => rfl
  | v :: r, o, w, a => by rw [World.setCells, frozen_setCells b r (o + 1), World.frozen?_setCell]
theorem keeps_setCells (F : Nat → Prop) (b : Nat) : ∀ (vs : List Value) (o : Nat) (w0 w : World), (F b ∨ w0.heap.size ≤ b) → Keeps F w0 w → Keeps F w0 (w.setCells b o vs)
  | [], _, _, _, _, h => h
  | v :: r, o, w0, w, hp, h => keeps_setCells F b r (o + 1) w0 _ hp (h.setCell (p := ⟨b, o, none⟩) hp v)
theorem size_setCells (b : Nat) : ∀ (vs : List Value) (o : Nat) (w : World), (w.setCells b o vs).heap.size = w.heap.size
  | [], _, _ => rfl
  | v :: r, o, w => by rw [World.setCells, size_setCells b r (o + 1)]; simp [World.setCell]

/-- Bytes laid over a row's from a place on. -/
theorem BufIs.over {w : World} {g cap : Nat} {l : List UInt8} (h : BufIs w g cap l) (o : Nat) (x : List UInt8) (hx : o + x.length ≤ l.length) :
    BufIs (w.setCells g o (x.map byteV)) g cap (l.take o ++ x ++ l.drop (o + x.length)) := by
  have hs : ∀ i, i < (x.map byteV).length → (w.cell? ⟨g, o + i, none⟩).isSome = true := fun i hi => h.room _ (by simp at hi; have := h.le; omega)
  have hlen : (l.take o ++ x ++ l.drop (o + x.length)).length = l.length := by simp; omega
  refine ⟨fun j hj => ?_, fun j hj => ?_, fun j hj => ?_, by rw [hlen]; exact h.le, by rw [size_setCells]; exact h.lt⟩
  · rw [hlen] at hj
    rw [cell_setCells g _ o w j hs]
    by_cases hc : o ≤ j ∧ j < o + (x.map byteV).length
    · rw [if_pos hc]
      simp only [List.length_map] at hc
      rw [List.getElem?_map, List.getD_eq_getElem?_getD, List.append_assoc, List.getElem?_append_right (by simp; omega), List.getElem?_append_left (by simp; omega)]
      have : j - (l.take o).length = j - o := by simp; omega
      rw [this, List.getElem?_eq_getElem (by omega : j - o < x.length)]; rfl
    · rw [if_neg hc, h.cells j hj]
      simp only [List.length_map] at hc
      congr 2
      rw [List.getD_eq_getElem?_getD, List.getD_eq_getElem?_getD]
      congr 1
      by_cases hlt : j < o
      · rw [List.append_assoc, List.getElem?_append_left (by simp; omega), List.getElem?_take_of_lt hlt]
      · rw [List.getElem?_append_right (by simp; omega), List.getElem?_drop]
        congr 1; simp; omega
  · rw [cell_setCells g _ o w j hs]
    split
    · rename_i hc; rw [List.getElem?_eq_getElem (by omega)]; rfl
    · exact h.room j hj
  · rw [frozen_setCells]; exact h.free j hj

section
variable {P : Program}

/-- '[]byte(s)'. -/
theorem conv_bytes (w : World) (src dst e : TypeId) (s : ByteArray) {u : TypeDesc} (hs : P.underlying src = some u) (hd : P.underlying dst = some (.slice e)) (he : P.underlying e = some (.int .u8)) :
    ∃ g cap w', (convert src dst (.string s)).run P w = .ok (.slice (some ⟨g, 0, none⟩) s.size cap) w' ∧ BufIs w' g cap s.data.toList ∧ Calm w w' ∧ w.heap.size ≤ g := by
  have hcalm : Calm w (Lib.bytesWorld w e s) := ⟨by simp [Lib.bytesWorld, World.freeze]; rfl, by simp [Lib.bytesWorld, World.freeze], by simp [Lib.bytesWorld, World.freeze]; rfl, by rw [Lib.bytesWorld_size]; omega, fun k hk => Lib.bytesWorld_at_old w e s k hk⟩
  have hge : s.size ≤ grownCap w s.size 0 e := grownCap_ge w s.size 0 e
  have hsz : (Lib.bytesCells w e s).size = grownCap w s.size 0 e := by simp [Lib.bytesCells]; have : s.data.size = s.size := rfl; omega
  refine ⟨w.heap.size, grownCap w s.size 0 e, Lib.bytesWorld w e s, Lib.run_convert_string_bytes w src dst e s hs hd he, ⟨fun j hj => ?_, fun j hj => ?_, fun j hj => ?_, by simpa using hge, by rw [Lib.bytesWorld_size]; omega⟩, hcalm, Nat.le_refl _⟩
  · exact Lib.bytesWorld_cell w e s j (by simpa using hj)
  · simp [World.cell?, Lib.bytesWorld_at_new, hsz, hj]
  · simp [World.frozen?, Lib.bytesWorld_at_new, hsz]; omega

/-- 'string(b)'. -/
theorem conv_string (w : World) (src dst e : TypeId) (hs : P.underlying src = some (.slice e)) (he : P.underlying e = some (.int .u8)) (hd : P.underlying dst = some .string) {g cap : Nat} {l : List UInt8} (h : BufIs w g cap l) (c : Nat) :
    (convert src dst (.slice (some ⟨g, 0, none⟩) l.length c)).run P w = .ok (.string ⟨l.toArray⟩) w := by
  have := run_convert_bytes_arg (P := P) w src e hs he g 0 l.length c (l.map fun b => (b.toNat : Int)) (by simp) (fun i hi => by
    rw [Nat.zero_add, h.cells i hi]
    simp [List.getD_eq_getElem?_getD, List.getElem?_eq_getElem hi]) dst hd
  rw [this]
  congr 2
  apply ba_ext
  rw [strOfNums_data, List.map_map]
  conv => rhs; rw [← List.map_id l]
  simp [Function.comp_def]

/-- 'copy(b[o:], s)'. -/
theorem copy_over (w : World) (dT sT ty e : TypeId) (hu : P.underlying dT = some (.slice e)) (hz : ∀ w, (Go.sizeOf e).run P w = .ok 1 w) {g cap : Nat} {l : List UInt8} (h : BufIs w g cap l) (o : Nat) (x : ByteArray) (hx : o + x.size ≤ l.length) (c : Nat) :
    (Builtin.copy_ #[dT, sT] ty #[.slice (some ⟨g, o, none⟩) (l.length - o) c, .string x]).run P w = .ok (goInt x.size) (w.setCells g o (x.data.toList.map byteV)) :=
  run_copy_string w dT sT ty e g o (l.length - o) c x hu hz (by omega) (fun j hj => h.room _ (by have := h.le; omega)) (fun j hj => h.free _ (by have := h.le; omega))

theorem zeroCells_u8 (n : Nat) : (Builtin.zeroCells #[Value.int .u8 0] n).toList = (List.replicate n (0 : UInt8)).map byteV := by
  apply List.ext_getElem?
  intro j
  simp only [Builtin.zeroCells, Array.toList_map, Array.toList_range, List.getElem?_map, List.getElem?_range, List.map_replicate]
  by_cases hj : j < n
  · rw [List.getElem?_range (by simpa using hj), List.getElem?_replicate, if_pos hj]
    simp [Nat.mod_one]
  · rw [List.getElem?_eq_none (by simpa using hj), List.getElem?_replicate, if_neg hj]; rfl

/-- 'append(b, make([]byte, n)...)'. -/
theorem append_zeros (w : World) (t tn ty e : TypeId) (i : TypeInfo) (kn : IntKind) (ht : P.underlying t = some (.slice e)) (htn : P.underlying tn = some (.int kn)) (hi : P.info? e = some i) (hz : i.zero = some (.int .u8 0)) (h1 : i.size = 1) (hb1 : i.bytes = 1)
    {g cap : Nat} {l : List UInt8} (h : BufIs w g cap l) (n : Nat) (h0 : 0 < n) (hl : l.length + n ≤ 4294967296) :
    ∃ g' cap' w', (Builtin.append_ #[t, tn] ty #[.slice (some ⟨g, 0, none⟩) l.length cap, .int .i64 n]).run P w = .ok (.slice (some ⟨g', 0, none⟩) (l.length + n) cap') w' ∧
      BufIs w' g' cap' (l ++ List.replicate n 0) ∧ Keeps (· = g) w w' ∧ (g' = g ∨ w.heap.size ≤ g') := by
  have hn : n ≠ 0 := by omega
  have hw : IntKind.i64.wrap (n : Int) = n := by rw [IntKind.wrap_i64]; omega
  have hneg : ¬ ((n : Int) < 0) := by omega
  have h48i : ¬ (281474976710656 < (n : Int)) := by omega
  by_cases hroom : l.length + n ≤ cap
  · have hst := run_storeCells_cells (P := P) g l.length (Builtin.zeroCells #[Value.int .u8 0] n).toList 0 w (by rw [zeroCells_u8]; intro j hj; simp at hj; exact h.room _ (by omega)) (by rw [zeroCells_u8]; intro j hj; simp at hj; exact h.free _ (by omega)) (by
      rw [zeroCells_u8]; intro v hv; obtain ⟨x, _, rfl⟩ := List.mem_map.1 hv; rfl)
    rw [zeroCells_u8] at hst
    refine ⟨g, cap, w.setCells g l.length ((List.replicate n (0 : UInt8)).map byteV), ?_, ?_, keeps_setCells _ g _ _ _ _ (.inl rfl) (Keeps.refl _ _), .inl rfl⟩
    · have hzc : (Builtin.zeroCells (Value.int .u8 0).cells n).toList = (List.replicate n (0 : UInt8)).map byteV := zeroCells_u8 n
      simp [Builtin.append_, run_underlying ht, run_underlying htn, sizeOf, typeInfo, zeroValue, hi, hz, h1, hb1, asInt, asIntOf, hw, hn, hneg, h48i, hroom, Addr.add_lit]
      simp at hzc hst
      rw [hzc, hst]
      rfl
    · have hs : ∀ i, i < ((List.replicate n (0 : UInt8)).map byteV).length → (w.cell? ⟨g, l.length + i, none⟩).isSome = true := fun i hi => h.room _ (by simp at hi; omega)
      refine ⟨fun j hj => ?_, fun j hj => ?_, fun j hj => ?_, by simpa using hroom, by rw [size_setCells]; exact h.lt⟩
      · rw [cell_setCells g _ _ w j hs]
        simp only [List.length_append, List.length_replicate] at hj
        by_cases hc : l.length ≤ j
        · rw [if_pos (by simp; omega), List.getD_eq_getElem?_getD, List.getElem?_append_right hc, List.getElem?_map, List.getElem?_replicate, if_pos (by omega)]; rfl
        · rw [if_neg (by simp; omega), h.cells j (by omega), List.getD_eq_getElem?_getD, List.getD_eq_getElem?_getD, List.getElem?_append_left (by omega)]
      · rw [cell_setCells g _ _ w j hs]
        split
        · rename_i hc; rw [List.getElem?_eq_getElem (by omega)]; rfl
        · exact h.room j hj
      · rw [frozen_setCells]; exact h.free j hj
  · have hold : (Builtin.firstCells i.size l.length (.slice (some ⟨g, 0, none⟩) l.length cap)).run P w.drew = .ok (l.map byteV).toArray w.drew := by
      refine run_firstCells_some (P := P) w.drew i.size l.length ⟨g, 0, none⟩ l.length cap (l.map byteV) (by simp [h1]) ?_
      intro j v hj
      have hjl : j < l.length := by
        rcases Nat.lt_or_ge j l.length with h' | h'
        · exact h'
        · rw [List.getElem?_eq_none (by simpa using h')] at hj; cases hj
      have hplain : (⟨g, 0, none⟩ : Addr).add j = ⟨g, j, none⟩ := by unfold Addr.add; split <;> simp_all
      rw [hplain]
      have := h.cells j hjl
      rw [List.getElem?_map, List.getElem?_eq_getElem hjl] at hj
      cases hj
      rw [List.getD_eq_getElem?_getD, List.getElem?_eq_getElem hjl] at this
      exact this
    have hcap : cap < l.length + n := by omega
    have hfit : Builtin.nextslicecap (l.length + n) cap * i.bytes ≤ 281474976710656 := growslice_fits hcap (by rw [hb1]; omega)
    have hr := Lib.run_append_grow_zeros (P := P) w t tn ty e i (.int .u8 0) .i64 kn ht htn hi hz (some ⟨g, 0, none⟩) l.length cap (l.map byteV) hold n h0 (by omega) hcap (by omega) (by rw [hb1]; omega) hfit
    have hge := grownCap_ge w (l.length + n) cap e
    refine ⟨w.heap.size, _, _, hr, ?_, (Keeps.refl _ w).drew.alloc _, .inr (Nat.le_refl _)⟩
    have hrow := heap_new w.drew (.cells ((l.map byteV).toArray ++ Builtin.zeroCells (Value.int .u8 0).cells n ++ Builtin.zeroCells (Value.int .u8 0).cells (grownCap w (l.length + n) cap e - (l.length + n))) e)
    have hz1 := zeroCells_u8 n
    have hz2 := zeroCells_u8 (grownCap w (l.length + n) cap e - (l.length + n))
    have harr : ((l.map byteV).toArray ++ Builtin.zeroCells (Value.int .u8 0).cells n ++ Builtin.zeroCells (Value.int .u8 0).cells (grownCap w (l.length + n) cap e - (l.length + n))) = ((l ++ List.replicate n 0 ++ List.replicate (grownCap w (l.length + n) cap e - (l.length + n)) 0).map byteV).toArray := by
      apply Array.toList_inj.1
      simp only [Array.toList_append, List.map_append]
      show (l.map byteV) ++ (Builtin.zeroCells #[Value.int .u8 0] n).toList ++ (Builtin.zeroCells #[Value.int .u8 0] _).toList = _
      rw [hz1, hz2]
    rw [harr] at hrow ⊢
    have hsz : w.drew.heap.size = w.heap.size := rfl
    rw [hsz] at hrow
    have hl2 : (l ++ List.replicate n (0 : UInt8) ++ List.replicate (grownCap w (l.length + n) cap e - (l.length + n)) 0).length = grownCap w (l.length + n) cap e := by simp; omega
    refine ⟨fun j hj => ?_, fun j hj => ?_, fun j hj => ?_, by simpa using hge, by simp⟩
    · rw [cell_of hrow j]
      rw [List.getElem?_toArray, List.getElem?_map, List.getElem?_append_left hj, List.getElem?_eq_getElem hj, List.getD_eq_getElem?_getD, List.getElem?_eq_getElem hj]; rfl
    · rw [cell_of hrow j, List.getElem?_toArray, List.getElem?_eq_getElem (by rw [List.length_map, hl2]; exact hj)]; rfl
    · exact free_of hrow j

/-- A copy WHOSE RUN IS KNOWN AS AN EQUATION, at the operation. -/
theorem wpList_copy_run (w : World) {ops : Array Oper} {rest : List Oper} {o : Oper} {a : Act} {Q : Exit → Act → World → Prop} (hgd : o.guard = none) (d x : Operand) (t tn : TypeId)
    (ho : o.op = .call { callee := .builtin .copy, args := #[d, x], argTypes := #[t, tn] }) (vd vx : Value) (hd : a.eval d = vd) (hx : a.eval x = vx)
    (v' : Value) (w' : World) (hr : (Builtin.copy_ #[t, tn] o.type #[vd, vx]).run P w = .ok v' w') (h : wpList P ops Q rest (a.put o.dst v') w') : wpList P ops Q (o :: rest) a w := by
  refine wpList_plain hgd fun K hK => ?_
  unfold Oper.wp execOp
  simp only [ho, resolve, invoke, builtin, Sem.run_bind, Sem.run_pure, Result.andThen_ok, List.map_toArray, List.map_cons, List.map_nil, hd, hx, hr]
  exact hK _ _ h
end
end Go.Proofs.Ytofffmnkoelifaa
