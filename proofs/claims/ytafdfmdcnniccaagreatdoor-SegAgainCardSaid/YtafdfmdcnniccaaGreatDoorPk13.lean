/- Layer 4: calls as data; Do. -/
import Derived.Test.YtafdfmdcnniccaaGreatDoorRows
import Derived.WalkKit
import Derived.ProofKit
import Derived.OpenShut
import Derived.Handy
import Derived.Deep.LoopGhost
import Derived.Lib.Hide
import Derived.Lib.Strings
import Derived.SizedLaws
import Derived.Maps.Own
import Derived.Maps.OwnOps
import Derived.Maps.OwnSet
import Derived.Maps.RangeWalk
import Derived.Deep.QuietTactic
import Derived.BigQuiet
import Derived.Deep.RegionHeld3
import Derived.Lib.ConvBytes
import Derived.Lib.AppendZeros
import Derived.Lib.AppendZerosOnto
import Derived.Lib.LazyBuf
import Derived.Shelf.Abstract
import Derived.LaidEql
import Derived.Lib.SliceRun
import Derived.StillTailTactics
import Derived.Deep.Slices
import Derived.Outline
import Derived.Test.YtafdfmdcnniccaaGreatDoorPk12
namespace Go.Proofs.YtafdfmdcnniccaaGreatDoor.dk
open Go.ChangeShapes Go.WideShapes Go.ChangeAt Go.RowKit

def opCells (o : OpS) (lv kv : Value) : List Value := [.int .i64 o.k, .int .i64 o.n, .string o.a, .string o.b, .string o.s, lv, kv, .int .i64 o.lack]
/-- What a call's data hang on. -/
structure OpIs (w : World) (lv kv : Value) (o : OpS) : Prop where
  l : RowsAt StrR 1 w lv o.l
  keep : RowsAt BoolR 1 w kv o.keep
  n : o.n ≤ 9223372036854775807
def OpR : Reads OpS := fun w cs o => ∃ lv kv, cs = opCells o lv kv ∧ OpIs w lv kv o
theorem OpIs.calm {w w' : World} {lv kv : Value} {o : OpS} (h : OpIs w lv kv o) (hc : Calm w w') : OpIs w' lv kv o := ⟨h.l.calm StrR.lasts hc, h.keep.calm BoolR.lasts hc, h.n⟩
theorem OpR.lasts : OpR.Lasts := fun _ _ _ _ ⟨lv, kv, e, h⟩ hc => ⟨lv, kv, e, h.calm hc⟩
section
variable {w w' : World} {p : Nat} {D : DiskS} {F : Nat → Prop}
theorem RowsAt_bools {v : Value} {l : List Bool} (h : RowsAt BoolR 1 w v l) : ∃ a cap, v = .slice a l.length cap ∧ l.length ≤ cap ∧ BoolsAt w a l := by
  obtain ⟨a, cap, rfl, h2, _, h4⟩ := h
  refine ⟨a, cap, rfl, h2, fun k hk => ?_⟩
  obtain ⟨b, off, cs, e, _, _, hcell, hr⟩ := h4 k hk
  refine ⟨b, off, e, ?_⟩
  have := hcell 0 (by omega)
  unfold BoolR at hr
  rw [hr] at this
  simpa using this

def DoDone (D : DiskS) (o : OpS) (p : Nat) (F : Nat → Prop) (w : World) (e : Ending) (w' : World) : Prop :=
  ∃ b F', w.heap.size ≤ b ∧ e = .returned (.int .i64 (D.does o b).1) ∧ DiskAt w' p (D.does o b).2 F' ∧ Step F w F' w'
theorem DoDone.of {o : OpS} {w1 : World} (hc : Calm w w1) {r : Int × DiskS} (hr : ∀ b, D.does o b = r) {F' : Nat → Prop} {n : Int} (hn : n = r.1) (hd : DiskAt w' p r.2 F') (hs : Step F w1 F' w') : DoDone D o p F w (.returned (.int .i64 n)) w' := by
  subst hn
  exact ⟨w.heap.size, F', Nat.le_refl _, by rw [hr], by rw [hr]; exact hd, Step.calm_left hc hs⟩

end
end Go.Proofs.YtafdfmdcnniccaaGreatDoor.dk

/- Layer 4: crashes and calls as data, told of a disk that is good. -/
namespace Go.Proofs.YtafdfmdcnniccaaGreatDoor.dk
open Go.ChangeShapes Go.WideShapes Go.ChangeAt Go.RowKit

section
variable {w w' : World} {p n : Nat} {D : DiskS} {F : Nat → Prop}
theorem Crash_ok (ka : Option Addr) (kcap : Nat) (keep : List Bool) (lack : Int) (w : World) (h : DiskOk w p D F n) (hn : n ≤ 1000000) (hk : BoolsAt w ka keep) (hap : Apart (.slice ka keep.length kcap) F) (hkc : keep.length ≤ kcap) (hkl : keep.length ≤ 1000000) :
    Calls Tryz.prog 20 #[ptrTo p, .agg #[.slice ka keep.length kcap, .int .i64 lack]] w fun e w' => e = .returned (.tuple #[]) ∧ ∃ F', DiskOk w' p (D.crashed keep lack) F' 0 ∧ Step F w F' w' :=
  (Crash_any ka kcap keep lack w h.lies hk hap hkc hkl (Nat.le_trans h.waits hn) (fun x hx => by have := h.good.wait h.form hx; omega) (fun f hf => by have := (h.good.file hf).2; omega)).mono fun _ _ ⟨he, F', hd, hs⟩ =>
    ⟨he, F', ⟨hd, (h.good.crashed _ _).1, Nat.le_refl _⟩, hs⟩
end
end Go.Proofs.YtafdfmdcnniccaaGreatDoor.dk
