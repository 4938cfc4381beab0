/- Lemmas for this claim. -/
import Derived.Test.YtiahjipoofeliaaGreatDoorRows
import Derived.WalkKit
import Derived.ProofKit
import Derived.OpenShut
import Derived.Handy
import Derived.Deep.LoopGhost
import Derived.Lib.Hide
import Derived.Lib.Strings
import Derived.SizedLaws
import Derived.OrdersHeld
set_option maxRecDepth 100000
namespace Go.Proofs.YtiahjipoofeliaaGreatDoor
open Go.ChangeShapes Go.WideShapes Go.ChangeAt Go.RowKit
structure Box (p:Prop):Prop where
 out:p
theorem box {p:Prop} (h:p):Box p:=⟨h⟩
theorem ret_bool {a b:Bool} (h:a=b):Ending.returned (.bool a)=.returned (.bool b):=by rw[h]
theorem ret_int {k:IntKind} {a b:Int} (h:a=b):Ending.returned (.int k a)=.returned (.int k b):=by rw[h]
theorem val_int {k:IntKind} {a b:Int} (h:a=b):Value.int k a=.int k b:=by rw[h]
theorem val_bool {a b:Bool} (h:a=b):Value.bool a=.bool b:=by rw[h]
theorem ret_str {a b:ByteArray} (h:a=b):Ending.returned (.string a)=.returned (.string b):=by rw[h]
theorem ret_tup2 {a b c d:Value} (h:a=b) (g:c=d):Ending.returned (.tuple #[a,c])=.returned (.tuple #[b,d]):=by rw[h,g]
theorem all_snoc (s:ByteArray) (k:Nat) (h:k<s.size) (p:UInt8→Bool):(s.data.toList.take (k+1)).all p=((s.data.toList.take k).all p && p s[k]):=by
 rw[List.take_succ_eq_append_getElem (by simpa using h),List.all_append];simp;rfl
theorem all_take (s:ByteArray) (k:Nat) (h:s.size≤k) (p:UInt8→Bool):(s.data.toList.take k).all p=s.data.toList.all p:=by
 rw[List.take_of_length_le (by simpa using h)]
theorem all_no (s:ByteArray) (k:Nat) (h:k<s.size) (p:UInt8→Bool) (hp:p s[k]=false):s.data.toList.all p=false:=by
 rw[List.all_eq_false]
 refine⟨s[k],?_,by simp [hp]⟩
 exact Array.getElem_mem_toList (xs:=s.data) h
theorem size_toList (s:ByteArray):s.data.toList.length=s.size:=by simp
theorem ba_ext {a b:ByteArray} (h:a.data.toList=b.data.toList):a=b:=by
 cases a;cases b;simp at h;simp [Array.toList_inj.1 (by simpa using h)]
theorem ba_inj {a b:ByteArray}:a.data.toList=b.data.toList↔a=b:=⟨ba_ext,fun h=>by rw[h]⟩
theorem append_toList (a b:ByteArray):(a++b).data.toList=a.data.toList++b.data.toList:=by simp
abbrev Calm (w w':World):Prop:=Below w.heap.size w w'
theorem Calm.refl (w:World):Calm w w:=Below.refl _ w
theorem Calm.trans {a b c:World} (h:Calm a b) (k:Calm b c):Calm a c:=Below.trans h (k.mono h.size)
theorem Calm.alloc {a w:World} (h:Calm a w) (o:Obj):Calm a (w.alloc o):=Below.alloc h h.size o
theorem Calm.drew {a w:World} (h:Calm a w):Calm a w.drew:=Below.drew h
theorem bcell {W w1:World} (hb:Calm W w1):(∀b o,b<W.heap.size→w1.cell? ⟨b,o,none⟩=W.cell? ⟨b,o,none⟩)∧(∀b o,b<W.heap.size→w1.frozen? ⟨b,o,none⟩=W.frozen? ⟨b,o,none⟩) :=
 ⟨fun b o h=>hb.cell (p:=⟨b,o,none⟩) h,fun b o h=>hb.frozen (p:=⟨b,o,none⟩) h⟩
theorem cm {a w:World} (h:Calm a w:=by(repeat' (first|(with_reducible exact Calm.refl _)|(with_reducible assumption)|(with_reducible refine Calm.drew ?_)|(with_reducible refine Calm.alloc ?_ _)|(with_reducible refine Calm.trans ?_ (by assumption))))):Calm a w:=h
section
variable {P:Program} {md:Region.Mode} {ops:Array Oper} {Q:Exit→Act→World→Prop} {S:World→Prop}
theorem tk (i:Nat) {oi:Oper} {v:Value} {fuel:Nat} {l l':Array Bool} {a a':Act} {w:World} (h:wpAnyH P md ops Q S fuel l' a' w) (hi:ops[i]? = some oi:=by rfl) (hs:Region.noSelect ops=true:=by kernel_rfl) (hf:Region.free md ops l i=true:=by kernel_rfl) (hr:(Region.ready md ops l).contains i=true:=by kernel_rfl)
  (hy:YieldsIf P ops S oi v a:=by(refine Or.inl ⟨by rfl,?_⟩;intro w hSw;(try dsimp only at hSw);go_simp<;>with_reducible rfl)) (hQ:∀c a w,Q (.panic c) (a.put oi.dst v) w→Q (.panic c) a w:=by exact fun _ _ _ h=>h) (hS:S w:=by assumption)
  (e1:l.setIfInBounds i true=l':=by((try simp only[List.setIfInBounds_toArray,List.set_cons_zero,List.set_cons_succ]);rfl)) (e2:a.put oi.dst v=a':=by((try simp only[List.getElem_toArray,List.getElem_cons_succ,List.getElem_cons_zero,Act.put,List.setIfInBounds_toArray,List.set_cons_zero,List.set_cons_succ]);rfl)):wpAnyH P md ops Q S (fuel+1) l a w:=by
 subst e1 e2
 exact wpAnyH_take hi hs hf hr hQ hy hS h
theorem tkl (i:Nat) {oi:Oper} {v:Value} {fuel:Nat} {l l':Array Bool} {a a':Act} {w:World} (h:wpAnyH P md ops Q S fuel l' a' w) (hi:ops[i]? = some oi:=by rfl) (hs:Region.noSelect ops=true:=by kernel_rfl) (hf:Region.free md ops l i=true:=by kernel_rfl) (hr:(Region.ready md ops l).contains i=true:=by kernel_rfl)
  (hy:YieldsIf P ops S oi v a:=by(refine Or.inl ⟨by rfl,?_⟩;intro w hSw;obtain⟨⟨hSw1⟩,⟨hSw2⟩⟩:=hSw;go_simp<;>with_reducible rfl)) (hQ:∀c a w,Q (.panic c) (a.put oi.dst v) w→Q (.panic c) a w:=by exact fun _ _ _ h=>h) (hS:S w:=by assumption)
  (e1:l.setIfInBounds i true=l':=by((try simp only[List.setIfInBounds_toArray,List.set_cons_zero,List.set_cons_succ]);rfl)) (e2:a.put oi.dst v=a':=by((try simp only[List.getElem_toArray,List.getElem_cons_succ,List.getElem_cons_zero,Act.put,List.setIfInBounds_toArray,List.set_cons_zero,List.set_cons_succ]);rfl)):wpAnyH P md ops Q S (fuel+1) l a w:=tk i h hi hs hf hr hy hQ hS e1 e2
theorem sk (i:Nat) {oi:Oper} {v:Value} {fuel:Nat} {l l':Array Bool} {a a':Act} {w:World} (h:wpAnyH P md ops Q S fuel l' a' w) (hi:ops[i]? = some oi:=by rfl) (hs:Region.noSelect ops=true:=by kernel_rfl) (hf:Region.free md ops l i=true:=by kernel_rfl) (hr:(Region.ready md ops l).contains i=true:=by kernel_rfl)
  (hy:YieldsIf P ops S oi v a:=by(exact Or.inr ⟨by rfl,rfl⟩)) (hQ:∀c a w,Q (.panic c) (a.put oi.dst v) w→Q (.panic c) a w:=by exact fun _ _ _ h=>h) (hS:S w:=by assumption)
  (e1:l.setIfInBounds i true=l':=by((try simp only[List.setIfInBounds_toArray,List.set_cons_zero,List.set_cons_succ]);rfl)) (e2:a.put oi.dst v=a':=by((try simp only[List.getElem_toArray,List.getElem_cons_succ,List.getElem_cons_zero,Act.put,List.setIfInBounds_toArray,List.set_cons_zero,List.set_cons_succ]);rfl)):wpAnyH P md ops Q S (fuel+1) l a w:=tk i h hi hs hf hr hy hQ hS e1 e2
end
def StrsAt (w:World) (v:Value) (l:List ByteArray):Prop :=
 (l=[]∧∃a cap,v=.slice a 0 cap) ∨
 (∃b off cap,v=.slice (some ⟨b,off,none⟩) l.length cap∧∀k,k<l.length→w.cell? ⟨b,off+k,none⟩=some (.string (l.getD k ByteArray.empty)))
theorem StrsAt.one {w:World} {b:Nat} {cap:Nat} {x:ByteArray} (h0:w.cell? ⟨b,0,none⟩=some (.string x)) :
  StrsAt w (.slice (some ⟨b,0,none⟩) 1 cap) [x]:=by
 refine .inr ⟨b,0,cap,rfl,fun k hk=>?_⟩
 match k,hk with
 | 0,_=>simpa using h0
theorem StrsAt.calm {w w':World} {v:Value} {l:List ByteArray} (h:StrsAt w v l) (hb:Calm w w'):StrsAt w' v l:=by
 rcases h with h|⟨b,off,cap,hv,hc⟩
 ·exact .inl h
 ·refine .inr ⟨b,off,cap,hv,fun k hk=>?_⟩
  have h1:=hc k hk
  have hlt:b<w.heap.size:=by
   unfold World.cell? at h1
   by_cases hb:b<w.heap.size
   ·exact hb
   ·simp [Array.getElem?_eq_none (Nat.le_of_not_lt hb)]at h1
  rw[hb.cell (p:=⟨b,off+k,none⟩) hlt];exact h1
theorem StrsAt.uni {w:World} {v:Value} {l:List ByteArray} (h:StrsAt w v l) :
  ∃a cap,v=.slice a l.length cap∧∀k,k<l.length→∃b off,a=some ⟨b,off,none⟩∧b<w.heap.size∧w.cell? ⟨b,off+k,none⟩=some (.string (l.getD k ByteArray.empty)):=by
 rcases h with ⟨rfl,a,cap,rfl⟩|⟨b,off,cap,rfl,hc⟩
 ·exact⟨a,cap,rfl,fun k hk=>by simp at hk⟩
 ·refine⟨_,cap,rfl,fun k hk=>⟨b,off,rfl,?_,hc k hk⟩⟩
  have h1:=hc k hk
  unfold World.cell? at h1
  by_cases hb:b<w.heap.size
  ·exact hb
  ·simp [Array.getElem?_eq_none (Nat.le_of_not_lt hb)]at h1
end Go.Proofs.YtiahjipoofeliaaGreatDoor

namespace Go.Proofs.YtiahjipoofeliaaGreatDoor.dk
instance:DecidableEq ByteArray:=fun a b=>decidable_of_iff (a.data.toList=b.data.toList) ba_inj
structure FileS where
 name:ByteArray
 blk:Nat
 image:ByteArray
 now:ByteArray
structure WaitS where
 blk:Nat
 off:Nat
 s:ByteArray
structure DiskS where
 left:Int
 down:Bool
 cap:Int
 files:List FileS
 waits:List WaitS
def DiskS.find (D:DiskS) (n:ByteArray):Option FileS:=D.files.find? fun f=>decide (f.name=n)
def DiskS.has (D:DiskS) (n:ByteArray):Bool:=(D.find n).isSome
def total (l:List FileS):Nat:=(l.map fun f=>f.now.size).foldr (· + ·) 0
def DiskS.size (D:DiskS):Nat:=total D.files
def new (cap:Int):DiskS:=⟨-1,false,min (max cap 0) 16777216,[],[]⟩
def DiskS.bars (D:DiskS) (l:List ByteArray):Int:=if D.down then 8 else if l.all D.has then 0 else 9
def DiskS.burns (D:DiskS):Bool:=decide (D.left=0)
def DiskS.burn (D:DiskS):DiskS:=if D.left=0 then { D with left:=-1,down:=true } else if 0<D.left then { D with left:=D.left-1 } else D
def DiskS.doing (D:DiskS) (f:DiskS→DiskS):Int×DiskS:=if D.burns then (8,D.burn) else (0,f D.burn)
def pad (l:List UInt8) (n:Nat):List UInt8:=l++List.replicate (n-l.length) 0
def laidL (s:List UInt8) (off:Nat) (over:List UInt8):List UInt8:=if over=[] then s else (pad s (off+over.length)).take off++over++(pad s (off+over.length)).drop (off+over.length)
def laid (s:ByteArray) (off:Nat) (over:ByteArray):ByteArray:=⟨(laidL s.data.toList off over.data.toList).toArray⟩
def DiskS.create (D:DiskS) (n:ByteArray) (b:Nat):Int×DiskS :=
 if D.down then (8,D) else if D.has n then (10,D) else D.doing fun D=>{ D with files:=D.files++[⟨n,b,⟨#[]⟩,⟨#[]⟩⟩] }
def DiskS.turn (D:DiskS) (n:ByteArray) (f:FileS→FileS):DiskS:={ D with files:=D.files.map fun x=>if x.name=n then f x else x }
def DiskS.without (D:DiskS) (b:Nat):DiskS:={ D with waits:=D.waits.filter fun x=>!decide (x.blk=b) }
def DiskS.write (D:DiskS) (n:ByteArray) (at_:Int) (s:ByteArray):Int×DiskS :=
 if D.down then (8,D) else
 match D.find n with
 | none=>(9,D)
 | some f =>
  if at_<0∨(f.now.size:Int)<at_ then (2,D)
  else if at_+s.size-f.now.size > D.cap-D.size∧at_+s.size > f.now.size then (7,D)
  else D.doing fun D=>if s.size=0 then D else { D.turn n (fun f=>{ f with now:=laid f.now at_.toNat s }) with waits:=D.waits++[⟨f.blk,at_.toNat,s⟩] }
def DiskS.last (D:DiskS) (n:ByteArray):DiskS :=
 match D.find n with
 | none=>D
 | some f=>(D.turn n fun f=>{ f with image:=f.now }).without f.blk
def DiskS.sync (D:DiskS) (l:List ByteArray):Int×DiskS :=
 if D.bars l≠0 then (D.bars l,D) else D.doing fun D=>l.foldl DiskS.last D
def DiskS.cut (D:DiskS) (n:ByteArray) (k:Int):Int×DiskS :=
 if D.down then (8,D) else
 match D.find n with
 | none=>(9,D)
 | some f=>if k<0∨(f.now.size:Int)<k then (2,D) else D.doing fun D=>(D.turn n (fun f=>{ f with now:=f.now.extract 0 k.toNat })).last n
def DiskS.drop (D:DiskS) (n:ByteArray):DiskS :=
 match D.find n with
 | none=>D
 | some f=>{ D.without f.blk with files:=D.files.filter fun x=>!decide (x.name=n) }
def DiskS.delete (D:DiskS) (l:List ByteArray):Int×DiskS :=
 if D.bars l≠0 then (D.bars l,D) else D.doing fun D=>l.foldl DiskS.drop D
def DiskS.fuse (D:DiskS) (n:Int):DiskS:={ D with left:=max n (-1) }
def lays (image:ByteArray) (b:Nat) (l:List WaitS):ByteArray:=l.foldl (fun s x=>if x.blk=b then laid s x.off x.s else s) image
def kept (keep:List Bool) (lack:Nat):List WaitS→List WaitS
 | []=>[]
 | x :: l =>
  match keep with
  | []=>[]
  | k :: ks=>if k then { x with s:=if ks.take l.length |>.contains true then x.s else x.s.extract 0 (x.s.size-lack) } :: kept ks lack l else kept ks lack l
end Go.Proofs.YtiahjipoofeliaaGreatDoor.dk

namespace Go.Proofs.YtiahjipoofeliaaGreatDoor
open Go.RowKit
theorem nodup_inj {α β:Type} {f:α→β}:∀ {l:List α},(l.map f).Nodup→∀ {x y:α},x∈l→y∈l→f x=f y→x=y
  | [],_,_,_,h,_,_=>by cases h
  | a :: l, hn, x, y, hx, hy, he => by
    rw[List.map_cons,List.nodup_cons]at hn
    rcases List.mem_cons.1 hx with hx'|hx'
    · rcases List.mem_cons.1 hy with hy' | hy'
      · rw[hx',hy']
      · exact absurd (List.mem_map.2 ⟨y,hy',by rw[←he,hx']⟩) hn.1
    · rcases List.mem_cons.1 hy with hy' | hy'
      · exact absurd (List.mem_map.2 ⟨x,hx',by rw[he,hy']⟩) hn.1
      · exact nodup_inj hn.2 hx' hy' he
theorem nodup_get {α:Type} {l:List α} (hn:l.Nodup) {i j:Nat} (hi:i<l.length) (hj:j<l.length) (h:l[i]=l[j]):i=j:=by
  unfold List.Nodup at hn
  rw[List.pairwise_iff_getElem]at hn
  rcases Nat.lt_trichotomy i j with g|g|g
  · exact absurd h (hn i j hi hj g)
  · exact g
  · exact absurd h.symm (hn j i hj hi g)
theorem heap_put_other (w:World) {b i:Nat} (o:Obj) (h:i≠b):(ChangeMaps.setBlock w b o).heap[i]? = w.heap[i]? := by
  simp only[ChangeMaps.setBlock,Array.getElem?_setIfInBounds];rw[if_neg (fun e=>h e.symm)]
structure Keeps (F:Nat→Prop) (w w':World):Prop where
  os:w'.os=w.os
  tape:w'.tape=w.tape
  output:w'.output=w.output
  size:w.heap.size≤w'.heap.size
  block:∀k,k<w.heap.size→¬F k→w'.heap[k]? = w.heap[k]?
theorem Keeps.refl (F:Nat→Prop) (w:World):Keeps F w w:=⟨rfl,rfl,rfl,Nat.le_refl _,fun _ _ _=>rfl⟩
theorem Keeps.mono {F G:Nat→Prop} {w w':World} (h:Keeps F w w') (g:∀b,b<w.heap.size→F b→G b):Keeps G w w' :=
  ⟨h.os,h.tape,h.output,h.size,fun k hk hn=>h.block k hk (fun hf=>hn (g k hk hf))⟩
theorem Keeps.trans' {F:Nat→Prop} {a b c:World} (h:Keeps F a b) (k:Keeps F b c):Keeps F a c :=
  ⟨k.os.trans h.os,k.tape.trans h.tape,k.output.trans h.output,Nat.le_trans h.size k.size,
    fun i hi hn=>(k.block i (Nat.lt_of_lt_of_le hi h.size) hn).trans (h.block i hi hn)⟩
theorem Keeps.of_calm {F:Nat→Prop} {w w':World} (h:Calm w w'):Keeps F w w':=⟨h.os,h.tape,h.output,h.size,fun k hk _=>h.block k hk⟩
theorem Keeps.calm {F:Nat→Prop} {a b c:World} (h:Keeps F a b) (k:Calm b c):Keeps F a c:=h.trans' (.of_calm k)
theorem Keeps.alloc {F:Nat→Prop} {a w:World} (h:Keeps F a w) (o:Obj):Keeps F a (w.alloc o):=h.calm ((Calm.refl w).alloc o)
theorem Keeps.drew {F:Nat→Prop} {a w:World} (h:Keeps F a w):Keeps F a w.drew:=⟨h.os,h.tape,h.output,h.size,h.block⟩
theorem Keeps.setCell {F:Nat→Prop} {a w:World} (h:Keeps F a w) {p:Addr} (hp:F p.block∨a.heap.size≤p.block) (u:Value):Keeps F a (w.setCell p u) :=
  ⟨h.os,h.tape,h.output,by simpa [World.setCell] using h.size,fun k hk hn=>by
    rw[Below.heap_setCell _ _ _ _ (fun e=>by subst e;rcases hp with hp|hp;exact hn hp;omega)];exact h.block k hk hn⟩
theorem Keeps.grown {F:Nat→Prop} {a w w':World} {row:Option Nat} (h:Keeps F a w) (hg:w.grownBy w' row) (hr:∀k,row=some k→F k∨a.heap.size≤k):Keeps F a w' :=
  ⟨hg.os.trans h.os,hg.tape.trans h.tape,hg.output.trans h.output,Nat.le_trans h.size hg.size,fun k hk hn=>by
    rw[hg.block k (Nat.lt_of_lt_of_le hk h.size) (fun e=>by rcases hr k e.symm with hp|hp;exact hn hp;omega)];exact h.block k hk hn⟩
theorem Keeps.below {F:Nat→Prop} {B:Nat} {w w':World} (h:Keeps F w w') (hB:B≤w.heap.size) (hF:∀b,F b→B≤b):Below B w w' :=
  ⟨h.os,h.tape,h.output,h.size,fun k hk=>h.block k (by omega) (fun hf=>by have:=hF k hf;omega)⟩
theorem Keeps.setObj {F:Nat→Prop} {a w:World} (h:Keeps F a w) {b:Nat} (hp:F b∨a.heap.size≤b) (o:Obj):Keeps F a (ChangeMaps.setBlock w b o) :=
  ⟨h.os,h.tape,h.output,by simpa [ChangeMaps.setBlock] using h.size,fun k hk hn=>by
    rw[heap_put_other _ _ (fun e=>by subst e;rcases hp with hp|hp;exact hn hp;omega)];exact h.block k hk hn⟩
structure Step (F:Nat→Prop) (w:World) (F':Nat→Prop) (w':World):Prop where
  keeps:Keeps F w w'
  foot:∀b,F' b→F b∨w.heap.size≤b
theorem Step.refl (F:Nat→Prop) (w:World):Step F w F w:=⟨.refl _ _,fun _ h=>.inl h⟩
theorem Step.of_calm {F:Nat→Prop} {w w':World} (h:Calm w w'):Step F w F w':=⟨.of_calm h,fun _ h=>.inl h⟩
theorem Step.trans {F G H:Nat→Prop} {a b c:World} (h:Step F a G b) (k:Step G b H c):Step F a H c :=
  ⟨⟨k.keeps.os.trans h.keeps.os,k.keeps.tape.trans h.keeps.tape,k.keeps.output.trans h.keeps.output,Nat.le_trans h.keeps.size k.keeps.size,
    fun i hi hn=>(k.keeps.block i (Nat.lt_of_lt_of_le hi h.keeps.size) (fun hg=>by rcases h.foot i hg with hf|hf;exact hn hf;omega)).trans (h.keeps.block i hi hn)⟩,
   fun b hb=>by
    rcases k.foot b hb with hg|hg
    · exact h.foot b hg
    · exact .inr (Nat.le_trans h.keeps.size hg)⟩
theorem Step.calm {F G:Nat→Prop} {a b c:World} (h:Step F a G b) (k:Calm b c):Step F a G c:=h.trans (.of_calm k)
theorem Step.calm_left {F G:Nat→Prop} {a b c:World} (k:Calm a b) (h:Step F b G c):Step F a G c:=(Step.of_calm k).trans h
theorem Step.same {F G:Nat→Prop} {w w':World} (h:Step F w G w') {b:Nat} {o:Obj} (hb:w.heap[b]? = some o) (hn:¬F b):w'.heap[b]? = some o:=by
  rw[h.keeps.block b (Array.getElem?_eq_some_iff.1 hb).1 hn];exact hb
theorem Step.below {F G:Nat→Prop} {B:Nat} {w w':World} (h:Step F w G w') (hB:B≤w.heap.size) (hF:∀b,F b→B≤b):Below B w w'∧∀b,G b→B≤b :=
  ⟨h.keeps.below hB hF,fun b hb=>by rcases h.foot b hb with hf|hf;exact hF b hf;omega⟩
theorem heap_calm {w w':World} (h:Calm w w') {b:Nat} {o:Obj} (hb:w.heap[b]? = some o):w'.heap[b]? = some o:=by
  rw[h.block b (Array.getElem?_eq_some_iff.1 hb).1];exact hb
theorem heap_lt {w:World} {b:Nat} {o:Obj} (hb:w.heap[b]? = some o):b<w.heap.size:=(Array.getElem?_eq_some_iff.1 hb).1
theorem cell_of {w:World} {b:Nat} {c:Array Value} {T:TypeId} {fr:Nat×Nat} (h:w.heap[b]? = some (.cells c T fr)) (k:Nat):w.cell? ⟨b,k,none⟩=c[k]? := by
  simp [World.cell?,h]
theorem free_of {w:World} {b:Nat} {c:Array Value} {T:TypeId} (h:w.heap[b]? = some (.cells c T (0,0))) (k:Nat):w.frozen? ⟨b,k,none⟩=false:=by
  simp [World.frozen?,h]
theorem heap_set {w : World} {b : Nat} {c : Array Value} {T : TypeId} {fr : Nat × Nat} (h : w.heap[b]? = some (.cells c T fr)) (k : Nat) (v : Value) :
    (w.setCell ⟨b,k,none⟩ v).heap[b]? = some (.cells (c.setIfInBounds k v) T fr):=by
  simp only[World.setCell,Array.getElem?_modify,if_pos rfl,h,Option.map_some];simp
theorem heap_set_other {w:World} {b b':Nat} (h:b≠b') (k:Nat) (v:Value):(w.setCell ⟨b',k,none⟩ v).heap[b]? = w.heap[b]? :=
  Below.heap_setCell _ _ _ _ h
theorem heap_new (w:World) (o:Obj):(w.alloc o).heap[w.heap.size]? = some o:=heap_alloc_new w o
theorem heap_old (w:World) (o:Obj) {b:Nat} {x:Obj} (h:w.heap[b]? = some x):(w.alloc o).heap[b]? = some x:=by
  rw[Below.heap_alloc w o b (heap_lt h)];exact h
end Go.Proofs.YtiahjipoofeliaaGreatDoor
