/- Layer 4: Crash: files settle; the waiting writes are cleared. -/
import Derived.Test.YtbmhjojlbmbpkaaDiskJ
namespace Go.Proofs.Ytbmhjojlbmbpkaa.dk
open Go.ChangeShapes Go.WideShapes Go.ChangeAt Go.RowKit

section
variable {w w' w1 : World} {p mb : Nat} {wv wv' : Value} {D E : DiskS} {F : Nat → Prop} {left : List Nat}

theorem own_any (a : Option Addr) (n c m d : Nat) : (Value.slice a n c).ownBlock = (Value.slice a m d).ownBlock := by cases a <;> rfl
def settleF (left : List Nat) (f : FileS) : FileS := if f.blk ∈ left then f else { f with now := f.image }
/-- All files but some have what lasts. -/
def DiskS.settled (E : DiskS) (left : List Nat) : DiskS := { E with files := E.files.map (settleF left) }
theorem settleF_same (left : List Nat) (f : FileS) : (settleF left f).name = f.name ∧ (settleF left f).blk = f.blk ∧ (settleF left f).image = f.image := by
  unfold settleF; split <;> exact ⟨rfl, rfl, rfl⟩
theorem settled_all : E.settled (E.files.map (·.blk)) = E := by
  unfold DiskS.settled
  have : E.files.map (settleF (E.files.map (·.blk))) = E.files := by
    conv => rhs; rw [← List.map_id E.files]
    apply List.map_congr_left
    intro f hf
    unfold settleF; rw [if_pos (List.mem_map.2 ⟨f, hf, rfl⟩)]; rfl
  rw [this]
theorem settled_enc (left : List Nat) : (E.settled left).files.map encF = E.files.map encF := by
  unfold DiskS.settled; rw [List.map_map]; apply List.map_congr_left; intro f hf
  obtain ⟨h1, h2, _⟩ := settleF_same left f
  simp only [Function.comp, encF, h1, h2]
theorem settled_blk (left : List Nat) : (E.settled left).files.map (·.blk) = E.files.map (·.blk) := by
  unfold DiskS.settled; rw [List.map_map]; apply List.map_congr_left; intro f hf
  exact (settleF_same left f).2.1
theorem foot_settled (left : List Nat) : foot p mb wv (E.settled left) = foot p mb wv E := by unfold foot; rw [settled_blk]
def lastF (f : FileS) : FileS := { f with now := f.image }
/-- One more settles. -/
theorem DiskIn.settle (h : DiskIn w p mb wv (E.settled left)) (hb : (E.files.map (·.blk)).Nodup) (hn : (E.files.map (·.name)).Nodup) {f : FileS} (hf : f ∈ E.files) (left' : List Nat)
    (hl : ∀ b, b ∈ left' ↔ b ∈ left ∧ b ≠ f.blk) (hin : f.blk ∈ left) :
    (E.settled left).find f.name = some f ∧ DiskIn (w.setCell ⟨f.blk, 1, none⟩ (.string f.image)) p mb wv (E.settled left') := by
  have hm : f ∈ (E.settled left).files := by
    refine List.mem_map.2 ⟨f, hf, ?_⟩
    unfold settleF; rw [if_pos hin]
  have hfind := h.find_mem hm
  have he : E.settled left' = (E.settled left).turn f.name lastF := by
    unfold DiskS.settled DiskS.turn
    simp only [List.map_map]
    congr 1
    apply List.map_congr_left
    intro y hy
    simp only [Function.comp]
    obtain ⟨h1, h2, h3⟩ := settleF_same left y
    by_cases hyf : y.name = f.name
    · have : y = f := nodup_inj hn hy hf hyf
      subst this
      rw [if_pos h1]
      unfold settleF lastF
      rw [if_pos hin, if_neg (fun h => ((hl _).1 h).2 rfl)]
    · have hyb : y.blk ≠ f.blk := fun e => hyf (by rw [nodup_inj hb hy hf e])
      rw [if_neg (by rw [h1]; exact hyf)]
      unfold settleF
      by_cases hyl : y.blk ∈ left
      · rw [if_pos hyl, if_pos ((hl _).2 ⟨hyl, hyb⟩)]
      · rw [if_neg hyl, if_neg (fun h => hyl ((hl _).1 h).1)]
  refine ⟨hfind, ?_⟩
  rw [he]
  exact h.fileTo hfind ((Keeps.refl (· = f.blk) w).setCell (p := ⟨f.blk, 1, none⟩) (.inl rfl) _) (fun _ => ⟨rfl, rfl⟩) (heap_set (h.files f hm) 1 _)

theorem clear_waits {a : Option Addr} {n cap : Nat} (h : DiskIn w p mb (.slice a n cap) D) :
    ∃ w', (∀ ty, (Builtin.clear_ #[74] ty #[.slice a n cap]).run Try.prog w = .ok (.tuple #[]) w') ∧ w'.ownsRow 0 83 3 (.slice a 0 cap) 0 [] ∧
      Keeps (fun g => (Value.slice a n cap).ownBlock = some g) w w' := by
  rcases h.waits.2 with ⟨e, h0⟩ | ⟨g, c, cur, e, r1, r2, r3, r4, r5, r6⟩
  · cases e
    exact ⟨w, fun ty => by simp [Builtin.clear_, run_underlying Try.underlying74, zeroWrite], ⟨rfl, .inl ⟨rfl, rfl⟩⟩, .refl _ _⟩
  · cases e
    by_cases h0 : D.waits.length = 0
    · refine ⟨w, fun ty => ?_, ⟨rfl, .inr ⟨g, cap, cur, rfl, r1, r2, Nat.zero_le _, r4, r5, by simp⟩⟩, .refl _ _⟩
      rw [h0]
      simp [Builtin.clear_, run_underlying Try.underlying74, zeroWrite]
    · have hzw := zeroWrites D.waits.length
      have hcl : ∀ ty, (Builtin.clear_ #[74] ty #[.slice (some ⟨g, 0, none⟩) D.waits.length cap]).run Try.prog w = .ok (.tuple #[]) (w.setCells g 0 (Builtin.zeroCells (Value.agg #[.pointer none, .int .i64 0, .string ⟨#[]⟩]).cells D.waits.length).toList) := fun ty =>
        run_clear_cells w _ 83 ty _ Try.underlying74 zeroWrite g 0 D.waits.length cap (D.waits.length * 3) (by omega) hzw.1 hzw.2
          (fun k hk => by rw [cell_of r2, Array.getElem?_eq_getElem (by omega)]; rfl) (fun k hk => free_of r2 _)
      obtain ⟨c', q1, q2, _⟩ := heap_setCells g _ (Builtin.zeroCells (Value.agg #[.pointer none, .int .i64 0, .string ⟨#[]⟩]).cells D.waits.length).toList 0 w cur r2
      exact ⟨_, hcl, ⟨rfl, .inr ⟨g, cap, c', rfl, r1, q1, Nat.zero_le _, r4, by rw [q2]; exact r5, by simp⟩⟩, keeps_setCells _ g _ _ _ _ (.inl rfl) (.refl _ _)⟩

end
end Go.Proofs.Ytbmhjojlbmbpkaa.dk
