/- Layer 4 as plain functions: no program in sight. -/
import Derived.Test.YtbmhjojlbmbpkaaBase
namespace Go.Proofs.Ytbmhjojlbmbpkaa.dk

instance : DecidableEq ByteArray := fun a b => decidable_of_iff (a.data.toList = b.data.toList) ba_inj

structure FileS where
  name : ByteArray
  blk : Nat
  image : ByteArray
  now : ByteArray
structure WaitS where
  blk : Nat
  off : Nat
  s : ByteArray
structure DiskS where
  left : Int
  down : Bool
  cap : Int
  files : List FileS
  waits : List WaitS

def DiskS.find (D : DiskS) (n : ByteArray) : Option FileS := D.files.find? fun f => decide (f.name = n)
def DiskS.has (D : DiskS) (n : ByteArray) : Bool := (D.find n).isSome
def total (l : List FileS) : Nat := (l.map fun f => f.now.size).foldr (· + ·) 0
def DiskS.size (D : DiskS) : Nat := total D.files
def new (cap : Int) : DiskS := ⟨-1, false, min (max cap 0) 16777216, [], []⟩
/-- What bars a call with some files: the error's number; 0: nothing. -/
def DiskS.bars (D : DiskS) (l : List ByteArray) : Int := if D.down then 8 else if l.all D.has then 0 else 9
/-- The fuse burns: is the call done? -/
def DiskS.burns (D : DiskS) : Bool := decide (D.left = 0)
def DiskS.burn (D : DiskS) : DiskS := if D.left = 0 then { D with left := -1, down := true } else if 0 < D.left then { D with left := D.left - 1 } else D
/-- A call that was not barred and not refused: the fuse burns, and it is done, or not. -/
def DiskS.doing (D : DiskS) (f : DiskS → DiskS) : Int × DiskS := if D.burns then (8, D.burn) else (0, f D.burn)

def pad (l : List UInt8) (n : Nat) : List UInt8 := l ++ List.replicate (n - l.length) 0
/-- Bytes with others laid over them from a place on; noughts are laid between. -/
def laidL (s : List UInt8) (off : Nat) (over : List UInt8) : List UInt8 := if over = [] then s else (pad s (off + over.length)).take off ++ over ++ (pad s (off + over.length)).drop (off + over.length)
def laid (s : ByteArray) (off : Nat) (over : ByteArray) : ByteArray := ⟨(laidL s.data.toList off over.data.toList).toArray⟩

def DiskS.create (D : DiskS) (n : ByteArray) (b : Nat) : Int × DiskS :=
  if D.down then (8, D) else if D.has n then (10, D) else D.doing fun D => { D with files := D.files ++ [⟨n, b, ⟨#[]⟩, ⟨#[]⟩⟩] }
/-- One file turned. -/
def DiskS.turn (D : DiskS) (n : ByteArray) (f : FileS → FileS) : DiskS := { D with files := D.files.map fun x => if x.name = n then f x else x }
def DiskS.without (D : DiskS) (b : Nat) : DiskS := { D with waits := D.waits.filter fun x => !decide (x.blk = b) }
def DiskS.write (D : DiskS) (n : ByteArray) (at_ : Int) (s : ByteArray) : Int × DiskS :=
  if D.down then (8, D) else
  match D.find n with
  | none => (9, D)
  | some f =>
    if at_ < 0 ∨ (f.now.size : Int) < at_ then (2, D)
    else if at_ + s.size - f.now.size > D.cap - D.size ∧ at_ + s.size > f.now.size then (7, D)
    else D.doing fun D => if s.size = 0 then D else { D.turn n (fun f => { f with now := laid f.now at_.toNat s }) with waits := D.waits ++ [⟨f.blk, at_.toNat, s⟩] }
/-- A file lasts. -/
def DiskS.last (D : DiskS) (n : ByteArray) : DiskS :=
  match D.find n with
  | none => D
  | some f => (D.turn n fun f => { f with image := f.now }).without f.blk
def DiskS.sync (D : DiskS) (l : List ByteArray) : Int × DiskS :=
  if D.bars l ≠ 0 then (D.bars l, D) else D.doing fun D => l.foldl DiskS.last D
def DiskS.cut (D : DiskS) (n : ByteArray) (k : Int) : Int × DiskS :=
  if D.down then (8, D) else
  match D.find n with
  | none => (9, D)
  | some f => if k < 0 ∨ (f.now.size : Int) < k then (2, D) else D.doing fun D => (D.turn n (fun f => { f with now := f.now.extract 0 k.toNat })).last n
/-- A file is gone. -/
def DiskS.drop (D : DiskS) (n : ByteArray) : DiskS :=
  match D.find n with
  | none => D
  | some f => { D.without f.blk with files := D.files.filter fun x => !decide (x.name = n) }
def DiskS.rename (D : DiskS) (a b : ByteArray) : Int × DiskS :=
  if D.down then (8, D) else
  match D.find a with
  | none => (9, D)
  | some f => D.doing fun D => if a = b then D else
      let E := D.drop b
      { E with files := (E.files.filter fun x => !decide (x.name = a)) ++ [{ f with name := b }] }
def DiskS.delete (D : DiskS) (l : List ByteArray) : Int × DiskS :=
  if D.bars l ≠ 0 then (D.bars l, D) else D.doing fun D => l.foldl DiskS.drop D
def DiskS.fuse (D : DiskS) (n : Int) : DiskS := { D with left := max n (-1) }
/-- A file's image with the writes that a crash keeps laid over it. -/
def lays (image : ByteArray) (b : Nat) (l : List WaitS) : ByteArray := l.foldl (fun s x => if x.blk = b then laid s x.off x.s else s) image
/-- The writes that a crash keeps: those that are marked; of the last one some bytes lack. -/
def kept (keep : List Bool) (lack : Nat) : List WaitS → List WaitS
  | [] => []
  | x :: l =>
    match keep with
    | [] => []
    | k :: ks => if k then { x with s := if ks.take l.length |>.contains true then x.s else x.s.extract 0 (x.s.size - lack) } :: kept ks lack l else kept ks lack l
def DiskS.crash (D : DiskS) (keep : List Bool) (lack : Int) : DiskS :=
  ⟨-1, false, D.cap, D.files.map fun f => let s := lays f.image f.blk (kept keep lack.toNat D.waits); { f with image := s, now := s }, []⟩

end Go.Proofs.Ytbmhjojlbmbpkaa.dk
