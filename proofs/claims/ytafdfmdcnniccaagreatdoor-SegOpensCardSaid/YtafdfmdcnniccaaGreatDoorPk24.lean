/- Layer 1: numbers as bytes: get, put. -/
import Derived.Test.YtafdfmdcnniccaaGreatDoorRows
import Derived.WalkKit
import Derived.ProofKit
import Derived.OpenShut
import Derived.Handy
import Derived.Deep.LoopGhost
import Derived.Lib.Hide
import Derived.Lib.Strings
import Derived.SizedLaws
import Derived.Maps.Own
import Derived.Maps.OwnOps
import Derived.Maps.OwnSet
import Derived.Maps.RangeWalk
import Derived.Deep.QuietTactic
import Derived.BigQuiet
import Derived.Deep.RegionHeld3
import Derived.Lib.ConvBytes
import Derived.Lib.AppendZeros
import Derived.Lib.AppendZerosOnto
import Derived.Lib.LazyBuf
import Derived.Shelf.Abstract
import Derived.LaidEql
import Derived.Lib.SliceRun
import Derived.StillTailTactics
import Derived.Deep.Slices
import Derived.Lib.Atoi
import Derived.Lib.ItoaNum
import Derived.Lib.SlTrimSet
import Derived.Shelf.SlIter.Nil
import Derived.Ground.GgzProg
import Derived.Shelf.SortM.Plain
import Derived.Shelf.SortM.SortNone
import Derived.Ground.SlgmProg
import Derived.Shelf.SlicesE.DeleteFunc
import Derived.Ground.SlgfProg
import Derived.Test.YtafdfmdcnniccaaGreatDoorProg
import Derived.Shelf.Strings.Builder1
import Derived.Shelf.Strings.Builder2
import Derived.Shelf.Strings.Trim
import Derived.Shelf.Small.Utf8
import Derived.Shelf.Small.Bits
import Derived.Shelf.Small.Strs
import Derived.Shelf.Small.Wraps
import Derived.Shelf.Strings.BuilderF
import Derived.Shelf.Strings.BuilderK
import Derived.Shelf.Strings.Builder2Cap
import Derived.Shelf.Strconv.Atoi
import Derived.Shelf.Strconv.Itoa0
import Derived.Shelf.Strconv.Itoa1
import Derived.Shelf.LaysM
import Derived.Shelf.Strconv.Itoa2
import Derived.Shelf.Strconv.Itoa3
import Derived.Shelf.Strings.Search1
import Derived.Shelf.Strings.Prefix
import Derived.Shelf.Strings.Runes
import Derived.Shelf.Strings.AsciiSet
import Derived.Shelf.Bits.Mul64
import Derived.Shelf.Strings.Repeat
import Derived.Shelf.Unicode.DecodeSlow
import Derived.Shelf.Strings.BuilderCap
import Derived.Ground.Names2Prog
import Derived.Shelf.Slices.Clone
import Derived.Ground.SlgnProg
import Derived.Shelf.SlicesE.Clone
import Derived.Shelf.SlicesE.IndexFunc
import Derived.Shelf.Strings.SlTrimAscii
import Derived.Lib.Repeat
import Derived.Lib.LaidTab
import Derived.Deep.RegionLaw
import Derived.Deep.RegionWith
import Derived.Lib.AtoiErrMem
import Derived.Test.YtafdfmdcnniccaaGreatDoorTie
import Derived.Test.YtafdfmdcnniccaaGreatDoorCards
import Derived.LaidMore
import Derived.Lay
import Derived.SevenTiedAt
import Derived.HandedShaped
import Derived.Stop.Joined
import Derived.Shelf.Vars
import Derived.Laws.MakeOwn
import Derived.Test.YtafdfmdcnniccaaGreatDoorPk23
namespace Go.Proofs.YtafdfmdcnniccaaGreatDoor.oc
open Go.ChangeShapes Go.WideShapes Go.ChangeAt Go.RowKit

/-- The number of bytes, the first one the greatest. -/
def getN (l : List UInt8) : Nat := l.foldl (fun x b => 256 * x + b.toNat) 0
theorem getN_snoc (l : List UInt8) (b : UInt8) : getN (l ++ [b]) = 256 * getN l + b.toNat := by unfold getN; rw [List.foldl_append]; rfl
theorem getN_take (l : List UInt8) : ∀ k, k ≤ l.length → getN (l.take k) < 256 ^ k
  | 0, _ => by simp [getN]
  | k + 1, h => by
    have ih := getN_take l k (by omega)
    rw [List.take_succ_eq_append_getElem (by omega), getN_snoc, Nat.pow_succ]
    have := (l[k]).toNat_lt
    omega
theorem or_join (x b : Nat) (hx : x < 281474976710656) (hb : b < 256) : bits .or .i64 (wrap64 ((x : Int) * 256)) (wrap64 (b : Int)) = ((256 * x + b : Nat) : Int) := by
  have e1 : wrap64 ((x : Int) * 256) = ((x * 2 ^ 8 : Nat) : Int) := by
    unfold wrap64; omega
  have e2 : wrap64 (b : Int) = (b : Int) := by
    unfold wrap64; omega
  rw [e1, e2]
  rw [bits_join .i64 63 (by decide) (fun n h0 h1 => by rw [IntKind.wrap_i64]; omega) 8 _ _ (by omega) (by omega) (by omega) (by omega) (by omega) (by omega)]
  omega
/-- The low n bytes of a number, the last one the least. -/
def low : Nat → Nat → List UInt8
  | 0, _ => []
  | n + 1, x => UInt8.ofNat (x / 256 ^ n) :: low n x
theorem low_length : ∀ (n x : Nat), (low n x).length = n
  | 0, _ => rfl
  | n + 1, x => by simp [low, low_length n x]

theorem infoByte : (Tryz.prog.info? 5).map (fun i => (i.zero, i.size, i.bytes)) = some (some (.int .u8 0), 1, 1) := by kernel_rfl
theorem u8_ofNat (y : Nat) : ((UInt8.ofNat y).toNat : Int) = (y : Int) % 256 := by simp
theorem made_bytes (w : World) (n : Nat) : BufIs (w.alloc (.cells (madeCells #[Value.int .u8 0] n) 5)) w.heap.size n (List.replicate n 0) := by
  have hb := heap_new w (.cells (madeCells #[Value.int .u8 0] n) 5)
  have hc : ∀ j, j < n → (madeCells #[Value.int .u8 0] n)[j]? = some (.int .u8 0) := fun j hj => by
    unfold madeCells; simp [hj, Nat.mod_one]
  refine ⟨fun j hj => ?_, fun j hj => ?_, fun j hj => free_of hb j, by simp, heap_lt hb⟩
  · simp only [List.length_replicate] at hj
    rw [cell_of hb, hc j hj]
    simp [List.getD_eq_getElem?_getD, hj]
  · rw [cell_of hb, hc j hj]; rfl
theorem low_over (n k x : Nat) (hk : k < n) : (List.replicate (n - k) (0 : UInt8) ++ low k x).take (n - 1 - k) ++ [UInt8.ofNat (x / 256 ^ k)] ++ (List.replicate (n - k) (0 : UInt8) ++ low k x).drop (n - 1 - k + 1) = List.replicate (n - (k + 1)) 0 ++ low (k + 1) x := by
  rw [List.take_append_of_le_length (by simp; omega), List.take_replicate, Nat.min_eq_left (by omega), List.drop_append_of_le_length (by simp; omega), List.drop_replicate,
    show n - k - (n - 1 - k + 1) = 0 by omega, show n - 1 - k = n - (k + 1) by omega]
  simp [low]
end Go.Proofs.YtafdfmdcnniccaaGreatDoor.oc
