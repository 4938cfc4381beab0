/- Layer 4: Write. -/
import Derived.Test.YtbmhjojlbmbpkaaDiskD
namespace Go.Proofs.Ytbmhjojlbmbpkaa.dk
open Go.ChangeShapes Go.WideShapes Go.ChangeAt Go.RowKit

/-- 'append(row, elements..)' onto a row of one's own: in place, or in the next new block. -/
theorem append_own {P : Program} (w : World) (t ty e : TypeId) (i : TypeInfo) (z : Value) (size bytes : Nat) (ht : P.underlying t = some (.slice e)) (hi : P.info? e = some i) (hz : i.zero = some z)
    (hsize : i.size = size) (hby : i.bytes = bytes) (hzs : z.cells.size = size) (hsz : 0 < size)
    (v : Value) (n : Nat) (xs : List Value) (hown : w.ownsRow 0 e size v n xs)
    (a : Addr) (m c : Nat) (hm : 0 < m) (news : List Value) (hl : news.length = m * size) (hnews : ∀ j u, news[j]? = some u → w.cell? (a.add j) = some u) (h1 : ∀ u ∈ news, u.oneCell' = true)
    (h63 : n + m ≤ maxLen) (hbytes : (n + m) * bytes ≤ 140737488355328) :
    ∃ v' w', (Builtin.append_ #[t, t] ty #[v, .slice (some a) m c]).run P w = .ok v' w' ∧ w'.ownsRow 0 e size v' (n + m) (xs ++ news) ∧ Keeps (fun g => v.ownBlock = some g) w w' ∧
      (v'.ownBlock = v.ownBlock ∨ v'.ownBlock = some w.heap.size) := by
  obtain ⟨v', w', hrun, hrow, hgr, _⟩ := run_append_own (P := P) w 0 t ty e i z size bytes ht hi hz hsize hby hzs hsz v n xs hown a m c news hl hnews h1 h63 hbytes (Nat.zero_le _)
  refine ⟨v', w', hrun, hrow, ⟨hgr.os, hgr.tape, hgr.output, hgr.size, fun k hk hn => hgr.block k hk (fun e => hn e.symm)⟩, ?_⟩
  subst hsize
  subst hby
  have hsmall : n + m ≤ 9223372036854775807 := by simp only [maxLen] at h63; omega
  rcases hown.2 with ⟨rfl, rfl⟩ | ⟨g, cap, cur, rfl, hbg, hg, hnc, hcm, hcs, htake⟩
  · have hr := run_append_nil (P := P) w t ty e i z ht hi hz a m c news hl hnews hm (by omega) (by have hb := hbytes; simp only [Nat.zero_add] at hb; omega)
    rw [hr] at hrun
    cases hrun
    exact .inr rfl
  · by_cases hroom : n + m ≤ cap
    · have hfit : n * i.size + news.length ≤ cur.size := by rw [hl, hcs, ← Nat.add_mul]; exact Nat.mul_le_mul_right _ hroom
      have hr := run_append_room (P := P) w t ty e i ht hi g n cap cur hg a m c news hl hnews h1 hroom hfit
      rw [hr] at hrun
      cases hrun
      exact .inl rfl
    · have holds : ∀ j u, xs[j]? = some u → w.cell? ((⟨g, 0, none⟩ : Addr).add j) = some u := hown.cells (g := g) rfl
      have hr := run_append_grow (P := P) w t ty e i z ht hi hz ⟨g, 0, none⟩ n cap xs hown.1 holds a m c news hl hnews (by omega) (by omega) (growslice_fits (by omega) hbytes)
      rw [hr] at hrun
      cases hrun
      exact .inr rfl

theorem infoWrite : (Try.prog.info? 83).map (fun i => (i.zero, i.size, i.bytes)) = some (some (.agg #[.pointer none, .int .i64 0, .string ⟨#[]⟩]), 3, 32) := by kernel_rfl

section
variable {w w' w1 : World} {p mb : Nat} {wv wv' : Value} {D : DiskS} {F : Nat → Prop}

theorem add_lit (b j : Nat) : (⟨b, 0, none⟩ : Addr).add j = ⟨b, j, none⟩ := by unfold Addr.add; split <;> simp_all

theorem append_wait (w : World) (L : List WaitS) (x : WaitS) (b : Nat) (h : w.ownsRow 0 83 3 wv L.length (L.flatMap encW)) (hb : w.heap[b]? = some (.cells #[ptrTo x.blk, .int .i64 x.off, .string x.s] 83 (0, 0))) (hl : L.length ≤ 1000000) (ty : TypeId) :
    ∃ v' w', (Builtin.append_ #[74, 74] ty #[wv, .slice (some ⟨b, 0, none⟩) 1 1]).run Try.prog w = .ok v' w' ∧ w'.ownsRow 0 83 3 v' (L ++ [x]).length ((L ++ [x]).flatMap encW) ∧ Keeps (fun g => wv.ownBlock = some g) w w' ∧
      (v'.ownBlock = wv.ownBlock ∨ v'.ownBlock = some w.heap.size) := by
  obtain ⟨i0, hi, hz0, hz1, hz2⟩ := info_parts infoWrite
  obtain ⟨v', w', h1, h2, h3, h4⟩ := append_own (P := Try.prog) w 74 ty 83 i0 _ 3 32 Try.underlying74 hi hz0 hz1 hz2 (by kernel_rfl) (by decide) wv L.length _ h ⟨b, 0, none⟩ 1 1 (by decide) (encW x) rfl (fun j u hj => by
      rw [add_lit, cell_of hb]
      match j, hj with
      | 0, hj => exact hj
      | 1, hj => exact hj
      | 2, hj => exact hj
      | k + 3, hj => simp [encW] at hj) (fun u hu => by
      rcases List.mem_cons.1 hu with rfl | hu
      · rfl
      rcases List.mem_cons.1 hu with rfl | hu
      · rfl
      rcases List.mem_cons.1 hu with rfl | hu
      · rfl
      cases hu) (by simp only [maxLen]; omega) (by omega)
  refine ⟨v', w', h1, ?_, h3, h4⟩
  simpa [List.flatMap_append] using h2

def putF (j : Nat) (s : ByteArray) (f : FileS) : FileS := { f with now := laid f.now j s }
def DiskS.put (D : DiskS) (n : ByteArray) (f : FileS) (j : Nat) (s : ByteArray) : DiskS := { D.turn n (putF j s) with waits := D.waits ++ [⟨f.blk, j, s⟩] }

theorem write_full {n s : ByteArray} {f : FileS} {j : Nat} (hd : D.down = false) (hf : D.find n = some f) (hj : j ≤ f.now.size) (h1 : D.cap - D.size < j + s.size - f.now.size) (h2 : (f.now.size : Int) < j + s.size) : D.write n j s = (7, D) := by
  unfold DiskS.write
  rw [hd, hf]
  simp only [Bool.false_eq_true, if_false]
  rw [if_neg (by omega), if_pos ⟨by omega, by omega⟩]
theorem write_goes {n s : ByteArray} {f : FileS} {j : Nat} (hd : D.down = false) (hf : D.find n = some f) (hj : j ≤ f.now.size) (h : ¬ (D.cap - D.size < j + s.size - f.now.size) ∨ ¬ ((f.now.size : Int) < j + s.size)) :
    D.write n j s = if D.burns then (8, D.burn) else (0, if s.size = 0 then D.burn else D.burn.put n f j s) := by
  unfold DiskS.write DiskS.doing
  rw [hd, hf]
  simp only [Bool.false_eq_true, if_false]
  rw [if_neg (by omega), if_neg (by omega)]
  rfl

end
end Go.Proofs.Ytbmhjojlbmbpkaa.dk
