/- Lemmas for this claim. -/
import Derived.Lib.Atoi
import Derived.Lib.ItoaNum
import Derived.Lib.SlTrimSet
import Derived.Test.YtiahjipoofeliaaGreatDoorPk20
set_option maxRecDepth 100000
namespace Go.Proofs.YtiahjipoofeliaaGreatDoor.sg
def dL:Nat→Nat→List UInt8
 | 0,_=>[]
 | k+1,n=>UInt8.ofNat (48+n / 10 ^ k) :: dL k (n%10 ^ k)
theorem dL_length:∀k n,(dL k n).length=k
 | 0,_=>rfl
 | k+1,n=>by show (dL k _).length+1=_;rw[dL_length k]
theorem dig_toNat {d:Nat} (h:d<10):(UInt8.ofNat (48+d)).toNat=48+d:=by
 rw[UInt8.toNat_ofNat'];exact Nat.mod_eq_of_lt (by omega)
theorem digitVal_of {d:Nat} (h:d<10):Lib.digitVal (UInt8.ofNat (48+d))=some d:=by
 unfold Lib.digitVal;rw[dig_toNat h,if_pos (by omega)];congr 1;omega
theorem top_lt {k n:Nat} (h:n<10 ^ (k+1)):n / 10 ^ k<10:=by
 rw[Nat.pow_succ]at h;exact Nat.div_lt_of_lt_mul h
theorem rest_lt (k n:Nat):n%10 ^ k<10 ^ k:=Nat.mod_lt _ (Nat.pow_pos (by decide))
theorem decFrom_dL:∀(k n acc:Nat),n<10 ^ k→Lib.decFrom acc (dL k n)=some (acc * 10 ^ k+n)
 | 0,n,acc,h=>by
  have:n=0:=by simpa using h
  subst this;simp [dL,Lib.decFrom]
 | k+1,n,acc,h=>by
  show (match Lib.digitVal (UInt8.ofNat (48+n / 10 ^ k)) with|some d=>Lib.decFrom (acc * 10+d) (dL k (n%10 ^ k))|none=>none)=_
  rw[digitVal_of (top_lt h)]
  show Lib.decFrom (acc * 10+n / 10 ^ k) (dL k (n%10 ^ k))=_
  rw[decFrom_dL k _ _ (rest_lt k n)]
  congr 1
  have h1:=Nat.div_add_mod n (10 ^ k)
  rw[Nat.pow_succ,Nat.add_mul,Nat.add_assoc,Nat.mul_comm (n / 10 ^ k),h1,Nat.mul_assoc,Nat.mul_comm 10]
theorem dL_zero:∀k,dL k 0=List.replicate k 48
 | 0=>rfl
 | k+1=>by
  show UInt8.ofNat (48+0 / 10 ^ k) :: dL k (0%10 ^ k)=_
  rw[Nat.zero_div,Nat.zero_mod,dL_zero k];rfl
theorem dL_back:∀(k n:Nat),n<10 ^ (k+1)→dL (k+1) n=dL k (n / 10)++[UInt8.ofNat (48+n%10)]
 | 0,n,h=>by
  have h2:n<10:=by simpa using h
  show [UInt8.ofNat (48+n / 10 ^ 0)]=[]++[_]
  rw[Nat.pow_zero,Nat.div_one,Nat.mod_eq_of_lt h2];rfl
 | k+1,n,h=>by
  show UInt8.ofNat (48+n / 10 ^ (k+1)) :: dL (k+1) (n%10 ^ (k+1))=(UInt8.ofNat (48+n / 10 / 10 ^ k) :: dL k (n / 10%10 ^ k))++_
  rw[dL_back k _ (rest_lt _ _)]
  have e1:n / 10 ^ (k+1)=n / 10 / 10 ^ k:=by rw[Nat.div_div_eq_div_mul,Nat.pow_succ,Nat.mul_comm]
  have e2:n%10 ^ (k+1) / 10=n / 10%10 ^ k:=by rw[Nat.pow_succ,Nat.mul_comm,Nat.mod_mul_right_div_self]
  have e3:n%10 ^ (k+1)%10=n%10:=Nat.mod_mod_of_dvd _ (by rw[Nat.pow_succ];exact Nat.dvd_mul_left _ _)
  rw[e1,e2,e3];rfl
theorem pad_digits:∀(k n:Nat),n<10 ^ (k+1)→List.replicate (k+1-Lib.nDigits n) 48++Lib.decDigits n=dL (k+1) n
 | 0,n,h=>by
  have h2:n<10:=by simpa using h
  rw[Lib.nDigits_small h2,Lib.decDigits_one h2,dL_back 0 n h,Nat.mod_eq_of_lt h2];rfl
 | k+1,n,h=>by
  rw[dL_back _ n h]
  by_cases h2:n<10
  ·rw[Lib.nDigits_small h2,Lib.decDigits_one h2,Nat.mod_eq_of_lt h2,Nat.div_eq_of_lt h2,dL_zero];rfl
  ·rw[Lib.nDigits_big h2,Lib.decDigits,dif_neg h2,←pad_digits k (n / 10) (by rw[Nat.pow_succ]at h;omega),List.append_assoc]
   congr 2;omega
theorem nDigits_le {k n:Nat} (h:n<10 ^ (k+1)):Lib.nDigits n≤k+1:=by
 have h1:=congrArg List.length (pad_digits k n h)
 rw[List.length_append,List.length_replicate,Lib.decDigits_length,dL_length]at h1
 omega
theorem dL_onto:∀l:List UInt8,(∀b∈l,48≤b.toNat∧b.toNat≤57)→∃n,n<10 ^ l.length∧l=dL l.length n
 | [],_=>⟨0,by decide,rfl⟩
 | b :: l,h=>by
  obtain⟨m,hm,e⟩:=dL_onto l (fun x hx=>h x (List.mem_cons_of_mem _ hx))
  have hb:=h b (List.mem_cons_self ..)
  refine⟨(b.toNat-48) * 10 ^ l.length+m,?_,?_⟩
  ·rw[List.length_cons,Nat.pow_succ]
   have h9:b.toNat-48+1≤10:=by omega
   have:=Nat.mul_le_mul_right (10 ^ l.length) h9
   rw[Nat.add_mul]at this
   omega
  ·show _=UInt8.ofNat (48+_ / 10 ^ l.length) :: dL l.length (_%10 ^ l.length)
   have hp:0<10 ^ l.length:=Nat.pow_pos (by decide)
   rw[Nat.mul_comm,Nat.mul_add_div hp,Nat.div_eq_of_lt hm,Nat.mul_add_mod,Nat.mod_eq_of_lt hm,←e]
   congr 1
   refine UInt8.toNat_inj.1 ?_
   rw[Nat.add_zero,dig_toNat (by omega)];omega
theorem dL_digits {k n:Nat} (h:n<10 ^ k):∀b∈dL k n,48≤b.toNat∧b.toNat≤57:=by
 induction k generalizing n with
 | zero=>intro b hb;cases hb
 | succ k ih =>
  intro b hb
  rcases List.mem_cons.1 hb with rfl|hb
  ·rw[dig_toNat (top_lt h)];exact⟨Nat.le_add_right _ _,Nat.add_le_add_left (Nat.le_of_lt_succ (top_lt h)) 48⟩
  ·exact ih (rest_lt k n) b hb
theorem dL_lt:∀ {k m n:Nat},m<n→n<10 ^ k→dL k m<dL k n
 | 0,m,n,h,hn=>by simp at hn;omega
 | k+1,m,n,h,hn=>by
  show UInt8.ofNat (48+m / 10 ^ k) :: dL k (m%10 ^ k)<UInt8.ofNat (48+n / 10 ^ k) :: dL k (n%10 ^ k)
  have hm:m<10 ^ (k+1):=Nat.lt_trans h hn
  rw[List.cons_lt_cons_iff]
  have hd:m / 10 ^ k≤n / 10 ^ k:=Nat.div_le_div_right (Nat.le_of_lt h)
  rcases Nat.lt_or_eq_of_le hd with h1|h1
  ·left
   rw[UInt8.lt_iff_toNat_lt,dig_toNat (top_lt hm),dig_toNat (top_lt hn)];omega
  ·right
   refine⟨by rw[h1],dL_lt ?_ (rest_lt k n)⟩
   have e1:=Nat.div_add_mod m (10 ^ k)
   have e2:=Nat.div_add_mod n (10 ^ k)
   rw[h1]at e1
   omega
def nameB (head:ByteArray) (n:Nat):ByteArray:=⟨(head.data.toList++dL 8 n).toArray⟩
def placeOf (head n:ByteArray):Option Nat :=
 if Lib.hasPrefix n.data.toList head.data.toList=true∧n.size=head.size+8∧(∀b∈n.data.toList.drop head.size,48≤b.toNat∧b.toNat≤57) then Lib.decFrom 0 (n.data.toList.drop head.size) else none
theorem name_size (head:ByteArray) (n:Nat):(nameB head n).size=head.size+8:=by
 show (head.data.toList++dL 8 n).toArray.size=_
 simp [dL_length]
theorem name_drop (head:ByteArray) (n:Nat):(nameB head n).data.toList.drop head.size=dL 8 n:=by
 show (head.data.toList++dL 8 n).drop head.data.size=_
 rw[←Array.length_toList,List.drop_left]
theorem name_prefix (head:ByteArray) (n:Nat):Lib.hasPrefix (nameB head n).data.toList head.data.toList=true:=by
 unfold Lib.hasPrefix nameB;simp
theorem place_name (head:ByteArray) {n:Nat} (h:n<100000000):placeOf head (nameB head n)=some n:=by
 unfold placeOf
 rw[name_drop,if_pos ⟨name_prefix head n,name_size head n,dL_digits (k:=8) h⟩,decFrom_dL 8 n 0 h];simp
theorem name_place {head s:ByteArray} {n:Nat} (h:placeOf head s=some n):n<100000000∧s=nameB head n:=by
 unfold placeOf at h
 split at h
 ·rename_i hc
  obtain⟨h1,h2,h3⟩:=hc
  obtain⟨m,hm,e⟩:=dL_onto _ h3
  have hl:(s.data.toList.drop head.size).length=8:=by
   have h4:s.data.size=head.size+8:=h2
   rw[List.length_drop,Array.length_toList];omega
  rw[hl]at hm e
  rw[e,decFrom_dL 8 m 0 hm]at h
  obtain rfl:m=n:=by simpa using h
  refine⟨hm,?_⟩
  have hp:s.data.toList.take head.size=head.data.toList:=by
   have h5:head.data.toList <+: s.data.toList:=by unfold Lib.hasPrefix at h1;exact List.isPrefixOf_iff_prefix.1 h1
   obtain⟨t,ht⟩:=h5
   rw[←ht]
   show (head.data.toList++t).take head.data.size=_
   rw[←Array.length_toList,List.take_left]
  have:=List.take_append_drop head.size s.data.toList
  rw[hp,e]at this
  unfold nameB
  rw[this]
 ·cases h
theorem name_inj {head:ByteArray} {m n:Nat} (hm:m<100000000) (hn:n<100000000) (h:nameB head m=nameB head n):m=n:=by
 have h1:=place_name head hm
 rw[h,place_name head hn]at h1
 exact(Option.some.inj h1).symm
end Go.Proofs.YtiahjipoofeliaaGreatDoor.sg

namespace Go.Proofs.YtiahjipoofeliaaGreatDoor.sg
open dk
structure RowS where
 head:ByteArray
 size:Nat
 start:Nat
 cnt:Nat
 fin:Nat
 synced:Nat
def plc (start size cnt:Nat):List Nat:=(List.range cnt).map fun i=>start+i * size
def RowS.places (R:RowS):List Nat:=plc R.start R.size R.cnt
def RowS.lastp (R:RowS):Nat:=R.start+(R.cnt-1) * R.size
def RowS.stop (R:RowS):Nat:=R.start+R.cnt * R.size
structure RowOk (R:RowS):Prop where
 size:16≤R.size∧R.size≤4096
 head:R.head.size≤1000000
 none:R.cnt=0→R.start=0∧R.fin=0
 fin:0<R.cnt→R.lastp≤R.fin∧R.fin≤R.stop
 least:0<R.cnt→R.lastp≤99999999
 mod:R.start%R.size=0
 synced:R.synced≤100004095
theorem plc_length (a s c:Nat):(plc a s c).length=c:=by unfold plc;simp
theorem plc_get (a s c:Nat) {k:Nat} (h:k<(plc a s c).length):(plc a s c)[k]=a+k * s:=by simp [plc]
theorem plc_snoc (a s c:Nat):plc a s (c+1)=plc a s c++[a+c * s]:=by unfold plc;rw[List.range_succ,List.map_append];rfl
theorem plc_take (a s c k:Nat) (h:k≤c):(plc a s c).take k=plc a s k:=by unfold plc;rw[←List.map_take,List.take_range,Nat.min_eq_left h]
theorem plc_drop (a s c k:Nat):(plc a s c).drop k=plc (a+k * s) s (c-k):=by
 refine List.ext_getElem (by simp [plc_length]) fun i h1 h2=>?_
 rw[List.getElem_drop,plc_get,plc_get,Nat.add_mul];omega
section
variable {R:RowS}
theorem RowS.length (R:RowS):R.places.length=R.cnt:=plc_length _ _ _
theorem RowOk.stop (h:0<R.cnt):R.stop=R.lastp+R.size:=by
 unfold RowS.stop RowS.lastp
 obtain⟨c,hc⟩:∃c,R.cnt=c+1:=⟨R.cnt-1,by omega⟩
 rw[hc,Nat.succ_mul,Nat.add_sub_cancel];omega
theorem RowS.start_le (R:RowS):R.start≤R.lastp:=Nat.le_add_right _ _
theorem RowOk.few (h:RowOk R):R.cnt≤6250001:=by
 by_cases h0:0<R.cnt
 ·have h1:=h.least h0
  have h2:=Nat.mul_le_mul_left (R.cnt-1) h.size.1
  unfold RowS.lastp at h1
  omega
 ·omega
theorem RowOk.le (h:RowOk R):R.fin≤100004095∧R.start≤99999999∧R.synced≤100004095:=by
 have h2:=h.size
 have h3:=h.synced
 by_cases h0:0<R.cnt
 ·have h4:=h.fin h0
  have h5:=h.least h0
  have h6:=RowOk.stop (R:=R) h0
  have h7:=R.start_le
  omega
 ·have:=h.none (by omega);omega
theorem RowOk.place (h:RowOk R) {k:Nat} (hk:k<R.cnt):R.start+k * R.size≤R.lastp∧R.start+k * R.size≤99999999:=by
 have h1:=h.least (by omega)
 have h2:=Nat.mul_le_mul_right R.size (show k≤R.cnt-1 by omega)
 unfold RowS.lastp at h1 ⊢
 omega
def RowS.room (R:RowS):Nat:=if 0<R.cnt∧R.fin<R.stop then R.stop-R.fin else R.size
def RowS.left (R:RowS) (k:Int):Nat:=if k<R.start∨(R.fin:Int)≤k then 0 else min (k.toNat / R.size * R.size+R.size) R.fin-k.toNat
theorem RowOk.room (h:RowOk R):0<R.room∧R.room≤R.size:=by
 unfold RowS.room
 split
 ·rename_i hc
  have:=RowOk.stop hc.1
  have:=(h.fin hc.1).1
  omega
 ·have:=h.size;omega
def RowS.isFresh (R:RowS):Bool:=decide (R.room<R.size) || (decide (0<R.cnt) && decide (R.fin=R.lastp))
def RowS.more (R:RowS):RowS:={ R with cnt:=R.cnt+1 }
def freshD (D:DiskS) (R:RowS) (b:Nat):Int×DiskS×RowS :=
 if R.isFresh=true then (0,D,R) else
 if 99999999<R.fin then (2,D,R) else
 if (D.create (nameB R.head R.fin) b).1≠0 then ((D.create (nameB R.head R.fin) b).1,(D.create (nameB R.head R.fin) b).2,R) else
 (0,(D.create (nameB R.head R.fin) b).2,R.more)
def RowS.grow (R:RowS) (n:Nat):RowS:={ R with fin:=R.fin+n }
def putD (D:DiskS) (R:RowS) (s:ByteArray):(Int×Int)×DiskS×RowS :=
 if (D.write (nameB R.head R.lastp) ((R.fin-R.lastp:Nat):Int) s).1≠0 then ((0,(D.write (nameB R.head R.lastp) ((R.fin-R.lastp:Nat):Int) s).1),(D.write (nameB R.head R.lastp) ((R.fin-R.lastp:Nat):Int) s).2,R) else
 (((R.fin:Int),0),(D.write (nameB R.head R.lastp) ((R.fin-R.lastp:Nat):Int) s).2,R.grow s.size)
def appendD (D:DiskS) (R:RowS) (s:ByteArray) (b:Nat):(Int×Int)×DiskS×RowS :=
 if s.size=0∨R.room<s.size then ((0,1),D,R) else
 if D.cap-D.size<s.size∧D.down=false then ((0,7),D,R) else
 if (freshD D R b).1≠0 then ((0,(freshD D R b).1),(freshD D R b).2) else
 putD (freshD D R b).2.1 (freshD D R b).2.2 s
theorem RowOk.fresh (h:RowOk R) (hf:R.isFresh=false):R.fin=R.stop∧R.room=R.size:=by
 unfold RowS.isFresh at hf
 rw[Bool.or_eq_false_iff,Bool.and_eq_false_iff]at hf
 have h1:¬R.room<R.size:=by simpa using hf.1
 have h2:=h.room
 refine⟨?_,by omega⟩
 by_cases h0:0<R.cnt
 ·have h3:=h.fin h0
  have h4:=RowOk.stop (R:=R) h0
  have h5:¬R.fin=R.lastp:=by
   rcases hf.2 with hf|hf
   ·simp [h0]at hf
   ·simpa using hf
  unfold RowS.room at h1
  by_cases h6:R.fin<R.stop
  ·rw[if_pos ⟨h0,h6⟩]at h1;omega
  ·omega
 ·have h3:=h.none (by omega)
  unfold RowS.stop
  have h4:R.cnt=0:=by omega
  rw[h4,h3.1,h3.2];simp
theorem RowOk.more (h:RowOk R) (hf:R.isFresh=false) (hl:R.fin≤99999999):RowOk R.more∧R.more.lastp=R.fin:=by
 obtain⟨h1,h2⟩:=h.fresh hf
 have h3:R.more.lastp=R.fin:=by
  show R.start+(R.cnt+1-1) * R.size=_
  rw[Nat.add_sub_cancel];exact h1.symm
 have h4:=RowOk.stop (R:=R.more) (Nat.succ_pos _)
 refine⟨⟨h.size,h.head,fun e=>(by cases e),fun _=>?_,fun _=>(by omega),h.mod,h.synced⟩,h3⟩
 show R.more.lastp≤R.fin∧R.fin≤R.more.stop
 omega
theorem RowOk.grow (h:RowOk R) (h0:0<R.cnt) {n:Nat} (hn:R.fin+n≤R.stop):RowOk (R.grow n):=by
 have h1:=h.fin h0
 have h2:=h.synced
 exact⟨h.size,h.head,fun e=>(by have:R.cnt=0:=e;omega),fun _=>⟨(by show R.lastp≤R.fin+n;omega),hn⟩,h.least,h.mod,h.synced⟩
theorem isFresh_cnt (h:RowOk R) (hf:R.isFresh=true):0<R.cnt:=by
 unfold RowS.isFresh at hf
 by_cases h0:0<R.cnt
 ·exact h0
 ·have:R.room=R.size:=by unfold RowS.room;rw[if_neg (fun h=>h0 h.1)]
  rw[this]at hf
  simp [h0]at hf
theorem fresh_ok (h:RowOk R) (D:DiskS) (b:Nat):RowOk (freshD D R b).2.2∧((freshD D R b).1=0→0<(freshD D R b).2.2.cnt∧(freshD D R b).2.2.fin=R.fin∧(R.room≤(freshD D R b).2.2.stop-R.fin)):=by
 unfold freshD
 split
 ·rename_i hf
  refine⟨h,fun _=>⟨isFresh_cnt h hf,rfl,?_⟩⟩
  have h0:=isFresh_cnt h hf
  have h1:=h.fin h0
  have h2:=RowOk.stop (R:=R) h0
  show R.room≤R.stop-R.fin
  by_cases h3:R.fin<R.stop
  ·unfold RowS.room;rw[if_pos ⟨h0,h3⟩];exact Nat.le_refl _
  ·exfalso
   unfold RowS.isFresh at hf
   have:R.room=R.size:=by unfold RowS.room;rw[if_neg (fun h=>h3 h.2)]
   rw[this]at hf
   have h4:=h.size
   simp at hf
   omega
 ·rename_i hf
  have hf:R.isFresh=false:=by simpa using hf
  split
  ·exact⟨h,fun e=>by cases e⟩
  ·rename_i hl
   split
   ·rename_i hc
    exact⟨h,fun e=>absurd e hc⟩
   ·obtain⟨h1,h2⟩:=h.more hf (by omega)
    refine⟨h1,fun _=>⟨Nat.succ_pos _,rfl,?_⟩⟩
    have h3:=RowOk.stop (R:=R.more) (Nat.succ_pos _)
    have h4:=h.fresh hf
    show R.room≤R.more.stop-R.fin
    have:R.more.size=R.size:=rfl
    omega
def RowS.dirty (R:RowS):List Nat:=R.places.filter fun p=>decide (R.synced<p+R.size) && decide (R.synced<R.fin)
def RowS.clean (R:RowS):RowS:={ R with synced:=R.fin }
def syncD (D:DiskS) (R:RowS):Int×DiskS×RowS :=
 if D.down then (8,D,R) else
 if R.dirty=[] then (0,D,R) else
 if (D.sync (R.dirty.map (nameB R.head))).1≠0 then ((D.sync (R.dirty.map (nameB R.head))).1,(D.sync (R.dirty.map (nameB R.head))).2,R) else
 (0,(D.sync (R.dirty.map (nameB R.head))).2,R.clean)
theorem RowOk.clean (h:RowOk R):RowOk R.clean:=⟨h.size,h.head,h.none,h.fin,h.least,h.mod,h.le.1⟩
def readD (D:DiskS) (R:RowS) (k m:Int):ByteArray×Int :=
 if D.down then (⟨#[]⟩,8) else
 if m=0∧(R.start:Int)≤k∧k≤R.fin then (⟨#[]⟩,0) else
 if m<1∨(R.left k:Int)<m then (⟨#[]⟩,2) else
 D.read (nameB R.head (k.toNat / R.size * R.size)) (k-(k.toNat / R.size * R.size:Nat)) m
def RowS.keepN (R:RowS) (k:Int):Nat:=match R.places.findIdx? (fun p:Nat=>decide (k≤(p:Int)) && decide (R.start<p)) with|some i=>i|none=>R.cnt
def RowS.firsts (R:RowS) (i:Nat):RowS:={ R with cnt:=i,fin:=min R.fin (R.start+i * R.size) }
def cutA (D:DiskS) (R:RowS) (k:Int):Int×DiskS×RowS :=
 if R.keepN k=R.cnt then (0,D,R) else
 if (D.delete ((R.places.drop (R.keepN k)).map (nameB R.head))).1≠0 then ((D.delete ((R.places.drop (R.keepN k)).map (nameB R.head))).1,(D.delete ((R.places.drop (R.keepN k)).map (nameB R.head))).2,R) else
 (0,(D.delete ((R.places.drop (R.keepN k)).map (nameB R.head))).2,R.firsts (R.keepN k))
def RowS.ends (R:RowS) (k:Nat):RowS:={ R with fin:=k,synced:=min R.synced k }
def cutB (D:DiskS) (R:RowS) (k:Int):Int×DiskS×RowS :=
 if k<R.fin then
  if (D.cut (nameB R.head R.lastp) (k-R.lastp)).1≠0 then ((D.cut (nameB R.head R.lastp) (k-R.lastp)).1,(D.cut (nameB R.head R.lastp) (k-R.lastp)).2,R) else
  (0,(D.cut (nameB R.head R.lastp) (k-R.lastp)).2,R.ends k.toNat)
 else (0,D,R.ends R.fin)
def cutD (D:DiskS) (R:RowS) (k:Int):Int×DiskS×RowS :=
 if D.down then (8,D,R) else
 if k<R.start∨(R.fin:Int)<k then (2,D,R) else
 if (cutA D R k).1≠0 then cutA D R k else cutB (cutA D R k).2.1 (cutA D R k).2.2 k
def RowS.rest (R:RowS):RowS:={ R with start:=R.start+R.size,cnt:=R.cnt-1,synced:=max R.synced (R.start+R.size) }
def dropD (D:DiskS) (R:RowS):(Int×Int)×DiskS×RowS :=
 if D.down then ((0,8),D,R) else
 if R.cnt<2 then ((0,9),D,R) else
 if (D.delete [nameB R.head R.start]).1≠0 then ((0,(D.delete [nameB R.head R.start]).1),(D.delete [nameB R.head R.start]).2,R) else
 ((((R.start+R.size:Nat):Int),0),(D.delete [nameB R.head R.start]).2,R.rest)
end
theorem RowOk.firsts {R:RowS} (h:RowOk R) {i:Nat} (h1:1≤i) (h2:i<R.cnt):RowOk (R.firsts i)∧(R.firsts i).fin=R.start+i * R.size∧(R.firsts i).fin=(R.firsts i).stop:=by
 have h3:=h.fin (by omega)
 have h4:=h.place h2
 have h5:=h.synced
 have h6:(R.firsts i).fin=R.start+i * R.size:=by
  show min R.fin (R.start+i * R.size)=_
  omega
 have h7:(R.firsts i).stop=R.start+i * R.size:=rfl
 have h8:=RowOk.stop (R:=R.firsts i) h1
 refine⟨⟨h.size,h.head,fun e=>?_,fun _=>(by omega),fun _=>?_,h.mod,h.synced⟩,h6,(by omega)⟩
 ·have:i=0:=e;omega
 ·have:=h.place (k:=i-1) (by omega)
  exact this.2
theorem RowOk.ends {R:RowS} (h:RowOk R) {k:Nat} (h1:R.start≤k) (h2:R.lastp≤k) (h3:k≤R.fin):RowOk (R.ends k):=by
 have h5:=h.synced
 refine⟨h.size,h.head,fun e=>?_,fun h0=>?_,h.least,h.mod,?_⟩
 ·have:=h.none e;exact⟨this.1,by show k=0;omega⟩
 ·have:=h.fin h0
  exact⟨h2,by show k≤R.stop;omega⟩
 ·show min R.synced k≤_
  omega
theorem RowOk.rest {R:RowS} (h:RowOk R) (h2:2≤R.cnt):RowOk R.rest:=by
 have h3:=h.fin (by omega)
 have h4:=h.least (by omega)
 have h5:R.rest.lastp=R.lastp:=by
  show R.start+R.size+(R.cnt-1-1) * R.size=R.start+(R.cnt-1) * R.size
  obtain⟨c,hc⟩:∃c,R.cnt=c+2:=⟨R.cnt-2,by omega⟩
  rw[hc,show c+2-1-1=c by omega,show c+2-1=c+1 by omega,Nat.succ_mul];omega
 have h6:R.rest.stop=R.stop:=by
  rw[RowOk.stop (R:=R) (by omega),RowOk.stop (R:=R.rest) (by show 0<R.cnt-1;omega),h5];rfl
 have h7:=R.rest.start_le
 have h8:=h.synced
 refine⟨h.size,h.head,fun e=>?_,fun _=>?_,fun _=>(by rw[h5];exact h4),?_,?_⟩
 ·have:R.cnt-1=0:=e;omega
 ·rw[h5,h6];exact h3
 ·show (R.start+R.size)%R.size=0
  rw[Nat.add_mod_right];exact h.mod
 ·have h9:R.rest.start=R.start+R.size:=rfl
  show max R.synced (R.start+R.size)≤_
  have:=h.le
  omega
end Go.Proofs.YtiahjipoofeliaaGreatDoor.sg

namespace Go.Proofs.YtiahjipoofeliaaGreatDoor
open Go.RowKit Go.Maps Go.Sort Go.Shelf Go.MapKept Go.WideElems
def keyB:Value→List UInt8
 | .string s=>s.data.toList
 | _=>[]
abbrev noR:Value→Option (DataW Unit×List MemPlace):=fun _=>some (.nil,[])
theorem MapIs.owns {P:Program} {w:World} {b:Nat} {k:TypeId} {m:List (Value×Value)} (h:MapIs w b .string m) (hk:P.underlying k=some .string) (hs:∀x∈m,(keyB x.1).length≤maxLen) (hl:m.length≤maxLen) :
  ∃D0:DataW Unit,w.ownsMap P k noR b m.length D0∧(strKeys D0).Perm (m.map fun x=>keyB x.1)∧Maps.size D0=m.length:=by
 obtain⟨es,clock,hb,hst,rfl,hks⟩:=h
 have hrd:∀x∈es.toList,WideElems.rd P k noR x=some (.string (keyB x.key),.nil):=fun x hx=>by
  have h1:=hks x hx
  have h2:=hs (x.key,x.val) (List.mem_map.2 ⟨x,hx,rfl⟩)
  unfold WideElems.rd
  cases hkx:x.key with
  | string s =>
   rw[hkx]at h2
   simp only[keyB]at h2
   unfold keyOf mapKey
   rw[hk]
   have h3:s.size≤maxLen:=by simpa using h2
   simp [h3,keyB,noR]
  | _=>rw[hkx]at h1;simp [IsKey]at h1
 refine⟨.map ((es.toList.map (WideElems.rg P k noR)).foldr DataW.insert []),⟨es,clock,hb,⟨by simpa using hl,hst,fun x hx=>⟨_,hrd x hx⟩⟩,by simp,rfl⟩,?_,?_⟩
 ·have hp:=(Go.WideShapes.sorted_perm (es.toList.map (WideElems.rg P k noR))).map (fun p=>strOf p.1)
  refine hp.trans (List.Perm.of_eq ?_)
  rw[List.map_map,List.map_map]
  apply List.map_congr_left
  intro x hx
  simp only[Function.comp,WideElems.rg_of (hrd x hx),strOf]
 ·have hp:=(Go.WideShapes.sorted_perm (es.toList.map (WideElems.rg P k noR))).length_eq
  show (List.foldr DataW.insert [] _).length=_
  rw[hp];simp
end Go.Proofs.YtiahjipoofeliaaGreatDoor

namespace Go.Proofs.YtiahjipoofeliaaGreatDoor.dk
open Go.ChangeShapes Go.WideShapes Go.ChangeAt Go.RowKit Go.Sort Go.Shelf
def DiskS.namesL (D:DiskS) (head:List UInt8):List (List UInt8):=((D.files.map fun f=>f.name.data.toList).mergeSort (fun x y=>decide (x≤y))).filter fun x=>Lib.hasPrefix x head
def DiskS.names (D:DiskS) (head:ByteArray):List ByteArray:=(D.namesL head.data.toList).map fun l=>⟨l.toArray⟩
theorem sorts46 (m:Nat):AnyZ.SortsIn Tryz.prog Tryz.gSorted_ren Fence.wide m :=
  ⟨fun blk off cap ss W hH hblk hsz=>callsIn_wide.2 (AnyM.slices_Sort_string Tryz.gSort blk off cap ss W hH hblk hsz),
   fun p cap W=>callsIn_wide.2 (AnyM.slices_Sort_string_none Tryz.gSort p cap W)⟩
abbrev KF:Nat:=75
abbrev KI:Nat:=127
theorem keys_any (mb:Option Nat) (W:World):Calls Tryz.prog KF #[.map mb] W fun e w'=>e=.returned (.func (.func KI) #[] #[.pointer (some ⟨W.heap.size,0,none⟩)])∧w'=W.alloc (.cells #[.map mb] 90) :=
  callsIn_wide.1 (AnyZ.keys_in Tryz.gKeys Fence.wide 5 trivial rfl mb W)
set_option maxHeartbeats 1000000 in
theorem sortedKeys_any {m : List (Value × Value)} (b : Nat) (w : World) (h : MapIs w b .string m) (hs : ∀ x ∈ m, (keyB x.1).length ≤ maxLen) (hl : m.length ≤ 1000000) :
    Calls Tryz.prog 74 #[.func (.func KI) #[] #[.pointer (some ⟨w.heap.size,0,none⟩)]] (w.alloc (.cells #[.map (some b)] 90)) fun e w'=>∃(v:Value) (ss:List (List UInt8)),e=.returned v∧ss.Perm (m.map fun x=>keyB x.1) ∧
      w'.ownsRow (w.heap.size+1) 9 1 v ss.length ((ss.mergeSort (fun x y=>decide (x≤y))).map encStr)∧(v=.slice none 0 0↔ss=[])∧Calm w w':=by
  obtain⟨D0,hown,hperm,hsize⟩:=h.owns (P:=Tryz.prog) Tryz.underlying9 hs (by unfold maxLen;omega)
  have hbl:=hown.lt
  have hseq:SeqGives Fence.wide 2 Tryz.prog KI #[.pointer (some ⟨w.heap.size,0,none⟩)] encStr (fun ss=>ss.Perm (strKeys D0)) (Maps.size D0) (w.alloc (.cells #[.map (some b)] 90)) :=
    AnyZ.keys_gives (ρ:=Tryz.gKeys_ren) { Tryz.gKeys with } Fence.wide _ trivial rfl (by omega) w.heap.size b m.length D0 _ (by simp) (by simp) (by
      obtain⟨es,clock,hb,Ft,hs,hD⟩:=hown
      exact⟨es,clock,(Below.heap_alloc _ _ b hbl).trans hb,Ft,hs,hD⟩)
  refine(callsIn_wide.1 (AnyZ.sorted_in Tryz.gSorted Fence.wide 5 trivial trivial trivial trivial rfl (by omega) (sorts46 _) (enters_of Tryz.func126 (by kernel_rfl) rfl) KI #[.pointer (some ⟨w.heap.size,0,none⟩)] trivial (enters_of Tryz.func127 (by kernel_rfl) rfl) _ _ (by rw[hsize];unfold maxLen;omega) (by rw[hsize];omega) _ hseq)).mono ?_
  rintro e w' ⟨v,ss,rfl,hp,hrow,hnil,hb⟩
  refine⟨v,ss,rfl,hp.trans hperm,?_,hnil,?_⟩
  · have h2 := hrow
    simp only[World.size_alloc]at h2
    exact h2
  · exact((Calm.refl w).alloc _).trans hb
theorem list1_any (x head : List UInt8) (B : Nat) (W : World) (hc : W.cell? ⟨B, 0, none⟩ = some (.string ⟨head.toArray⟩)) :
    FnGives Tryz.prog 77 #[.pointer (some ⟨B,0,none⟩)] #[encStr x] (.bool (!Lib.hasPrefix x head)) W:=by
  show Calls Tryz.prog 77 #[encStr x,.pointer (some ⟨B,0,none⟩)] W _
  have hp:=box (Tryz.strings_HasPrefix ⟨x.toArray⟩ ⟨head.toArray⟩ W)
  go_enter Tryz.func77,Tryz.ntmps77
  go_wp2_with fail
  refine hp.out.mono ?_
  rintro e w' ⟨rfl,rfl⟩
  go_wp2_with fail
  go_ret
  exact⟨by simp,0,rfl⟩
theorem IndexFuncStrNil_any (a:Option Addr) (c:Nat) (fv:Value) (w:World):Calls Tryz.prog 128 #[.slice a 0 c,fv] w fun e w'=>e=.returned (.int .i64 (-1))∧w=w':=by
  go_enter Tryz.func128,Tryz.ntmps128
  go_wp2
  go_loop [8] (fun i=>i=.int .i64 0) (fun _=>0)
  case atStart=>rfl
  case round =>
    obtain rfl:=hrel
    go_wp2
    go_ret
    exact⟨rfl,rfl⟩
theorem DeleteFuncStrNil_any (a:Option Addr) (c:Nat) (fv:Value) (w:World):Calls Tryz.prog 76 #[.slice a 0 c,fv] w fun e w'=>e=.returned (.slice a 0 c)∧w=w':=by
  go_enter Tryz.func76,Tryz.ntmps76
  go_wp2_with fail
  refine(IndexFuncStrNil_any a c fv w).mono ?_
  rintro e w' ⟨rfl,rfl⟩
  go_wp2_with fail
  go_ret
  exact⟨rfl,rfl⟩
theorem calm_put {α:Type} [Inhabited α] {enc:α→Value} {w w1:World} (h:Calm w w1) {q g off:Nat} {d:Array α} (hg:w.heap.size≤g):Calm w (putRow enc (Sort.ahead w1 q) g off d):=by
  refine⟨h.os,h.tape,h.output,?_,fun k hk=>?_⟩
  · simpa [putRow,mapBlock,Sort.ahead] using h.size
  · have : (putRow enc (Sort.ahead w1 q) g off d).heap[k]? = w1.heap[k]? := by
      simp only[putRow,mapBlock,Sort.ahead,Array.getElem?_modify]
      rw[if_neg (by omega)]
    rw[this];exact h.block k hk
def ListDone (D:DiskS) (head:ByteArray) (w:World) (e:Ending) (w':World):Prop :=
  ∃v,e=.returned v∧StrsAt w' v (D.names head)∧Calm w w'∧∀a n c,v=.slice (some a) n c→w.heap.size≤a.block
theorem zeroStr (w:World):(zeroValue 9).run Tryz.prog w=.ok (encStr []) w:=by kernel_rfl
set_option maxHeartbeats 4000000 in
theorem List_any {p : Nat} {D : DiskS} {F : Nat → Prop} (head : ByteArray) (w : World) (h : DiskAt w p D F) (hn : ∀ f ∈ D.files, f.name.size ≤ maxLen) (hl : D.files.length ≤ 1000000) :
    Calls Tryz.prog 36 #[ptrTo p,.string head] w (ListDone D head w):=by
  obtain⟨mb,wv,h,rfl⟩:=h
  have hcalm:Calm w (w.alloc (.cells #[.string head] 9)):=(Calm.refl w).alloc _
  have h1:=h.calm hcalm
  obtain⟨c0,c1,c2,c3,c4⟩:=h1.cells
  have hk0:=sortedKeys_any mb _ h1.map (fun x hx=>by obtain⟨f,hf,rfl⟩:=List.mem_map.1 hx;simpa [encF,keyB] using hn f hf) (by simpa using hl)
  simp only[World.size_alloc]at hk0
  have hk:=box hk0
  clear hk0
  have hkeys:D.files.map (fun f=>f.name.data.toList)=(D.files.map encF).map fun x=>keyB x.1:=by rw[List.map_map];apply List.map_congr_left;intro f _;simp [encF,keyB]
  have Hkeys:=box hkeys
  have Hl:=box hl
  have Hcalm:=box hcalm
  clear h h1 hn hl hkeys hcalm
  go_enter Tryz.func36,Tryz.ntmps36
  go_wp2_with fail
  refine(keys_any _ _).mono ?_
  rintro e w1 ⟨rfl,rfl⟩
  go_wp2_with fail
  refine hk.out.mono ?_
  rintro e w2 ⟨v,ss,rfl,hperm,hrow,hnil,hc2⟩
  have hsort:ss.mergeSort (fun x y=>decide (x≤y))=(D.files.map fun f=>f.name.data.toList).mergeSort (fun x y=>decide (x≤y)):=by rw[Hkeys.out];exact mergeSort_of_perm hperm
  rw[hsort]at hrow
  have hlen:ss.length=((D.files.map fun f=>f.name.data.toList).mergeSort (fun x y=>decide (x≤y))).length:=by rw[←hsort];simp
  have hll:=box (show ss.length≤1000000 by rw[hlen];simpa using Hl.out)
  have HN:=box (show D.names head=((((D.files.map fun f=>f.name.data.toList).mergeSort (fun x y=>decide (x≤y))).filter fun x=>Lib.hasPrefix x head.data.toList)).map (fun l=>(⟨l.toArray⟩:ByteArray)) from rfl)
  obtain⟨L,hL⟩:∃L,(D.files.map fun f=>f.name.data.toList).mergeSort (fun x y=>decide (x≤y))=L:=⟨_,rfl⟩
  rw[hL]at hrow hlen HN
  rw[hlen]at hrow hll
  have Hc2:=box (Hcalm.out.trans hc2)
  have hhead:w2.cell? ⟨w.heap.size,0,none⟩=some (.string ⟨head.data.toList.toArray⟩):=by
    rw[hc2.cell (p:=⟨w.heap.size,0,none⟩) (by simp)]
    have:=cell_of (heap_new w (.cells #[.string head] 9)) 0
    rw[this];rfl
  have Hhead:=box hhead
  have hsz2:=box hc2.size
  clear hsort hL hhead hperm hc2
  rcases hrow.2 with ⟨rfl,h0⟩|⟨g,cap,cur,rfl,hg,hgc,r2,r3,r4,r5⟩
  · have hLn : L = [] := List.eq_nil_of_length_eq_zero h0
    subst hLn
    clear hrow hnil hlen h0
    go_wp2_with fail
    refine(DeleteFuncStrNil_any _ _ _ _).mono ?_
    rintro e w3 ⟨rfl,rfl⟩
    go_wp2_with fail
    go_ret
    exact⟨_,rfl,by rw[HN.out];exact .inl ⟨rfl,_,_,rfl⟩,Hc2.out,fun a n c e=>by cases e⟩
  · have hH : Holds encStr w2 g 0 L.toArray := fun j hj => by
      simp only[List.size_toArray]at hj
      have hcj:cur[j]? = some (encStr L[j]):=by
        have h5:=congrArg (fun l=>l[j]?) r5
        simp only[List.getElem?_map]at h5
        rw[List.getElem?_take_of_lt (by omega),Array.getElem?_toList,List.getElem?_eq_getElem hj]at h5
        exact h5
      rw[Nat.zero_add,cell_of hgc,hcj]
      exact⟨by simp [hj],free_of hgc j⟩
    have hne:w.heap.size≠g:=by omega
    have hgw:w.heap.size≤g:=by omega
    have hcon:=AnyE.slices_DeleteFunc Tryz.gDelStr encStr (fun _=>rfl) (fun x=>!Lib.hasPrefix x head.data.toList) 77 #[.pointer (some ⟨w.heap.size,0,none⟩)] (enters_of Tryz.func77 (by kernel_rfl) rfl) [] zeroStr g 0 cap L.toArray w2
      (fun W x hb=>list1_any x _ _ W (by rw[hb.cell (p:=⟨w.heap.size,0,none⟩) (by have:=hsz2.out;simp at this;simp;omega)];exact Hhead.out))
      (fun n os dk x _=>list1_any x _ _ _ (by
        unfold sortWorld
        rw[cell?_grow _ _ _ (by show w.heap.size<(putRow _ _ _ _ _).heap.size;rw[size_putRow];have:=hsz2.out;simp at this;show w.heap.size<w2.heap.size;omega),cell?_putRow_other _ _ g 0 _ _ (Or.inl hne)]
        exact Hhead.out)) hH (by simp;have:=hll.out;omega) (by simp;omega)
    simp only[List.size_toArray,Bool.not_not]at hcon
    obtain⟨K,hK⟩:∃K,L.filter (fun x=>Lib.hasPrefix x head.data.toList)=K:=⟨_,rfl⟩
    have hKL:K.length≤L.length:=by rw[←hK];exact List.length_filter_le _ _
    rw[hK]at hcon HN
    change Calls Tryz.prog 76 _ _ _ at hcon
    have Hcon:=box hcon
    have HH:=box hH
    clear hcon hH hnil hrow hlen r2 r3 r4 r5 hg hgc hK
    go_wp2_with fail
    refine Hcon.out.mono ?_
    rintro e w3 ⟨rfl,q,rfl⟩
    go_wp2_with fail
    go_ret
    refine⟨_,rfl,?_,calm_put Hc2.out hgw,fun a n c e=>by cases e;exact hgw⟩
    rw[HN.out]
    refine .inr ⟨g,0,cap,by rw[List.length_map];rfl,fun k hk=>?_⟩
    rw[List.length_map]at hk
    have hHa:Holds encStr (Sort.ahead w2 q) g 0 L.toArray:=HH.out
    rw[cell?_putRow encStr _ g 0 L.toArray _ hHa (by simp;omega) k (by simp;omega)]
    simp [List.getD_eq_getElem?_getD,hk,encStr,List.getElem?_append_left]
end Go.Proofs.YtiahjipoofeliaaGreatDoor.dk

namespace Go.Proofs.YtiahjipoofeliaaGreatDoor.sg
open dk
def _root_.Go.Proofs.YtiahjipoofeliaaGreatDoor.dk.DiskS.len (D:DiskS) (n:ByteArray):Nat:=match D.find n with|some f=>f.now.size|none=>0
structure FoundS where
 start:Nat
 cnt:Nat
 fin:Nat
 whole:Bool
 others:List ByteArray
def findStep (size:Nat) (x:FoundS) (n:ByteArray) (k long:Nat):FoundS :=
 if k%size≠0 then { x with others:=x.others++[n] } else
 if x.whole=false∨¬(x.cnt=0∨k=x.fin)∨size<long then { x with others:=x.others++[n],whole:=x.whole && decide (x.cnt=0) } else
 { x with start:=if x.cnt=0 then k else x.start,cnt:=x.cnt+1,fin:=k+long,whole:=decide (long=size) }
def findOne (D:DiskS) (head:ByteArray) (size:Nat) (x:FoundS) (n:ByteArray):FoundS :=
 match placeOf head n with
 | none=>x
 | some k=>findStep size x n k (D.len n)
def foundD (D:DiskS) (head:ByteArray) (size:Nat):FoundS:=(D.names head).foldl (findOne D head size) ⟨0,0,0,true,[]⟩
def FoundS.row (x:FoundS) (head:ByteArray) (size:Nat):RowS:=⟨head,size,x.start,x.cnt,x.fin,x.start⟩
def openD (D:DiskS) (head:ByteArray) (size:Int):Int×DiskS×RowS :=
 if size<16∨4096<size then (1,D,⟨head,0,0,0,0,0⟩) else
 if D.down then (8,D,⟨head,0,0,0,0,0⟩) else
 if (foundD D head size.toNat).others=[] then (0,D,(foundD D head size.toNat).row head size.toNat) else
 ((D.delete (foundD D head size.toNat).others).1,(D.delete (foundD D head size.toNat).others).2,(foundD D head size.toNat).row head size.toNat)
structure FoundOk (size:Nat) (x:FoundS):Prop where
 none:x.cnt=0→x.start=0∧x.fin=0∧x.whole=true
 fin:0<x.cnt→x.start+(x.cnt-1) * size≤x.fin∧x.fin≤x.start+x.cnt * size
 full:0<x.cnt→x.whole=true→x.fin=x.start+x.cnt * size
 least:0<x.cnt→x.start+(x.cnt-1) * size≤99999999
 mod:x.start%size=0
theorem FoundOk.new (size:Nat):FoundOk size ⟨0,0,0,true,[]⟩:=⟨fun _=>⟨rfl,rfl,rfl⟩,fun h=>absurd h (Nat.lt_irrefl 0),fun h=>absurd h (Nat.lt_irrefl 0),fun h=>absurd h (Nat.lt_irrefl 0),Nat.zero_mod _⟩
theorem FoundOk.step {size:Nat} {x:FoundS} (h:FoundOk size x) (n:ByteArray) {k long:Nat} (hk:k<100000000):FoundOk size (findStep size x n k long):=by
 unfold findStep
 split
 ·exact⟨h.none,h.fin,h.full,h.least,h.mod⟩
 rename_i hm
 split
 ·rename_i hc
  refine⟨fun e=>?_,h.fin,fun h0 hw=>?_,h.least,h.mod⟩
  ·have e':x.cnt=0:=e
   obtain⟨h1,h2,h3⟩:=h.none e'
   refine⟨h1,h2,?_⟩
   show (x.whole && decide (x.cnt=0))=true
   rw[h3,e'];rfl
  ·exfalso
   have hw':(x.whole && decide (x.cnt=0))=true:=hw
   have h0':0<x.cnt:=h0
   rw[Bool.and_eq_true,decide_eq_true_eq]at hw'
   omega
 ·rename_i hc
  have hw:x.whole=true:=by
   cases hx:x.whole
   ·exact absurd (Or.inl hx) hc
   ·rfl
  have hl:long≤size:=by
   by_cases h1:size<long
   ·exact absurd (Or.inr (Or.inr h1)) hc
   ·omega
  have hf:x.cnt=0∨k=x.fin:=by
   by_cases h1:x.cnt=0∨k=x.fin
   ·exact h1
   ·exact absurd (Or.inr (Or.inl h1)) hc
  have hm:k%size=0:=by omega
  by_cases h0:x.cnt=0
  ·rw[if_pos h0]
   simp only[h0]
   refine⟨fun e=>(by cases e),fun _=>?_,fun _ hw=>?_,fun _=>?_,hm⟩
   ·show k+(0+1-1) * size≤k+long∧k+long≤k+(0+1) * size
    simp;omega
   ·have hw':decide (long=size)=true:=hw
    rw[decide_eq_true_eq]at hw'
    show k+long=k+(0+1) * size
    simp [hw']
   ·show k+(0+1-1) * size≤_
    simp;omega
  ·have hk':k=x.start+x.cnt * size:=by rw[←h.full (by omega) hw];exact hf.resolve_left h0
   rw[if_neg h0]
   refine⟨fun e=>(by cases e),fun _=>?_,fun _ hw=>?_,fun _=>?_,h.mod⟩
   ·show x.start+(x.cnt+1-1) * size≤k+long∧k+long≤x.start+(x.cnt+1) * size
    rw[Nat.succ_mul,Nat.add_sub_cancel];omega
   ·have hw':decide (long=size)=true:=hw
    rw[decide_eq_true_eq]at hw'
    show k+long=x.start+(x.cnt+1) * size
    rw[Nat.succ_mul];omega
   ·show x.start+(x.cnt+1-1) * size≤_
    rw[Nat.add_sub_cancel];omega
theorem FoundOk.one {size:Nat} {x:FoundS} (h:FoundOk size x) (D:DiskS) (head n:ByteArray):FoundOk size (findOne D head size x n):=by
 unfold findOne
 cases hp:placeOf head n with
 | none=>exact h
 | some k=>exact h.step n (name_place hp).1
theorem FoundOk.all {size:Nat} (D:DiskS) (head:ByteArray) (l:List ByteArray):∀x,FoundOk size x→FoundOk size (l.foldl (findOne D head size) x):=by
 induction l with
 | nil=>exact fun _ h=>h
 | cons n l ih=>exact fun x h=>ih _ (h.one D head n)
theorem FoundOk.row {size:Nat} {x:FoundS} (h:FoundOk size x) (hs:16≤size∧size≤4096) (head:ByteArray) (hh:head.size≤1000000):RowOk (x.row head size) :=
 ⟨hs,hh,fun e=>⟨(h.none e).1,(h.none e).2.1⟩,fun e=>h.fin e,fun e=>h.least e,h.mod,by
  show x.start≤100004095
  by_cases h0:0<x.cnt
  ·have:=h.least h0;omega
  ·have:=h.none (by omega);omega⟩
theorem find_others {size:Nat} (D:DiskS) (head:ByteArray) (x:FoundS) (n:ByteArray):(findOne D head size x n).others.length≤x.others.length+1:=by
 unfold findOne findStep
 split
 ·omega
 ·split
  ·simp
  ·split<;>simp
structure Able (D:DiskS) (c m:Nat):Prop where
 alive:Alive D
 cap:D.cap=(c:Int)
 size:D.size≤m
 few:(D.files.map (·.name)).length≤m
 names:∀s∈D.files.map (·.name),s.size≤1000
theorem Able.file {D:DiskS} {c m:Nat} (h:Able D c m):∀f∈D.files,f.name.size≤1000000:=fun f hf=>by have:=h.names f.name (List.mem_map.2 ⟨f,hf,rfl⟩);omega
theorem Able.files {D:DiskS} {c m:Nat} (h:Able D c m):D.files.length≤m:=by have:=h.few;rwa[List.length_map]at this
theorem Able.new (c:Nat) (hc:c≤16777216):Able (dk.new c) c 0:=⟨new_alive _,by show min (max (c:Int) 0) 16777216=c;omega,Nat.le_refl _,Nat.le_refl _,fun s hs=>by cases hs⟩
section
variable {D E:DiskS} {R:RowS} {b:List UInt8} {c m:Nat}
theorem turn_names {n:ByteArray} {g:FileS→FileS} (hg:∀x,(g x).name=x.name):(D.turn n g).files.map (·.name)=D.files.map (·.name):=by
 unfold DiskS.turn
 simp only[List.map_map]
 apply List.map_congr_left
 intro x _
 simp only[Function.comp]
 split<;>simp [hg]
theorem last_names (n:ByteArray):(D.last n).files.map (·.name)=D.files.map (·.name):=by
 unfold DiskS.last
 split
 ·rfl
 ·exact turn_names (fun _=>rfl)
theorem lasts_names (l:List ByteArray):∀D:DiskS,(l.foldl DiskS.last D).files.map (·.name)=D.files.map (·.name):=by
 induction l with
 | nil=>exact fun _=>rfl
 | cons n l ih=>intro D;rw[List.foldl_cons,ih,last_names]
theorem drops_names (l:List ByteArray):∀D:DiskS,((l.foldl DiskS.drop D).files.map (·.name)).Sublist (D.files.map (·.name)):=by
 induction l with
 | nil=>exact fun _=>List.Sublist.refl _
 | cons n l ih =>
  intro D
  rw[List.foldl_cons]
  refine(ih _).trans ?_
  unfold DiskS.drop
  split
  ·exact List.Sublist.refl _
  ·exact(List.filter_sublist).map _
theorem form_create (hF:dk.Form D) {n:ByteArray} {blk:Nat} (hn:D.has n=false) (hb:∀f∈D.files,f.blk≠blk) (he:E.files=D.files++[⟨n,blk,⟨#[]⟩,⟨#[]⟩⟩]) (hw:E.waits=D.waits):dk.Form E:=by
 have hno:D.find n=none:=by unfold DiskS.has at hn;cases hx:D.find n;rfl;rw[hx]at hn;cases hn
 refine⟨?_,?_,fun x hx=>?_⟩
 ·rw[he,List.map_append,List.nodup_append]
  refine⟨hF.names,by simp,fun a ha c hc e=>?_⟩
  obtain⟨f,hf,rfl⟩:=List.mem_map.1 ha
  simp at hc
  exact find_none hno f hf (e.trans hc)
 ·rw[he,List.map_append,List.nodup_append]
  refine⟨hF.blks,by simp,fun a ha c hc e=>?_⟩
  obtain⟨f,hf,rfl⟩:=List.mem_map.1 ha
  simp at hc
  exact hb f hf (e.trans hc)
 ·rw[hw]at hx
  obtain⟨f,hf,e⟩:=hF.live x hx
  exact⟨f,by rw[he];exact List.mem_append_left _ hf,e⟩
def segL (b:List UInt8) (size i:Nat):List UInt8:=(b.drop (i * size)).take size
def bA (l:List UInt8):ByteArray:=⟨l.toArray⟩
theorem bA_list (l:List UInt8):(bA l).data.toList=l:=rfl
theorem bA_size (l:List UInt8):(bA l).size=l.length:=by show l.toArray.size=_;simp
structure Holds (D:DiskS) (R:RowS) (b:List UInt8):Prop where
 ok:RowOk R
 size:R.fin=R.start+b.length
 segs:∀i,i<R.cnt→D.bytes (nameB R.head (R.start+i * R.size))=some (bA (segL b R.size i))
 only:∀k,k<100000000→D.has (nameB R.head k)=true→k∈R.places
def Only (D E:DiskS) (head:ByteArray):Prop:=∀n,(∀k,k<100000000→n≠nameB head k)→E.bytes n=D.bytes n
theorem Only.refl (D:DiskS) (head:ByteArray):Only D D head:=fun _ _=>rfl
theorem Only.trans {F:DiskS} {head:ByteArray} (h:Only D E head) (k:Only E F head):Only D F head:=fun n hn=>(k n hn).trans (h n hn)
theorem but_only {head:ByteArray} {k:Nat} (hk:k<100000000) {s:ByteArray} (h:But D E (nameB head k) s):Only D E head:=fun n hn=>h.others n (hn k hk)
theorem mem_plc {a s c k:Nat}:k∈plc a s c↔∃i,i<c∧k=a+i * s:=by
 unfold plc
 rw[List.mem_map]
 constructor
 ·rintro⟨i,hi,rfl⟩;exact⟨i,List.mem_range.1 hi,rfl⟩
 ·rintro⟨i,hi,rfl⟩;exact⟨i,List.mem_range.2 hi,rfl⟩
theorem seg_append (b s:List UInt8) (size i:Nat) (h:i * size+size≤b.length):segL (b++s) size i=segL b size i:=by
 unfold segL
 rw[List.drop_append_of_le_length (by omega),List.take_append_of_le_length (by rw[List.length_drop];omega)]
theorem seg_last (b s:List UInt8) (size i:Nat) (h1:i * size≤b.length) (h2:b.length+s.length≤i * size+size):segL (b++s) size i=segL b size i++s:=by
 unfold segL
 rw[List.drop_append_of_le_length h1,List.take_of_length_le (by rw[List.length_append,List.length_drop];omega),List.take_of_length_le (by rw[List.length_drop];omega)]
theorem seg_length (b:List UInt8) (size i:Nat):(segL b size i).length=min size (b.length-i * size):=by
 unfold segL;rw[List.length_take,List.length_drop]
theorem lastp_eq (R:RowS):R.lastp=R.start+(R.cnt-1) * R.size:=rfl
theorem Holds.lastLen (h:Holds D R b) (h0:0<R.cnt):(R.cnt-1) * R.size≤b.length∧b.length≤(R.cnt-1) * R.size+R.size:=by
 have h1:=h.ok.fin h0
 have h2:=RowOk.stop (R:=R) h0
 have h3:=h.size
 rw[lastp_eq]at h1 h2
 omega
theorem plc_lt {size i j:Nat} (h:i<j):i * size+size≤j * size:=by
 have:=Nat.mul_le_mul_right size (show i+1≤j from h)
 rwa[Nat.succ_mul]at this
def Tight (R:RowS):Prop:=R.cnt≤1∨R.lastp<R.fin
end
end Go.Proofs.YtiahjipoofeliaaGreatDoor.sg

namespace Go.Proofs.YtiahjipoofeliaaGreatDoor
open Go.ChangeShapes Go.WideShapes Go.ChangeAt Go.RowKit
open dk
def IntsAt (w:World) (v:Value) (l:List Int):Prop :=
 ∃a cap,v=.slice a l.length cap∧(l.length≤maxLen∧l.length≤cap)∧∀k (hk:k<l.length),∃b off,a=some ⟨b,off,none⟩∧b<w.heap.size∧w.cell? ⟨b,off+k,none⟩=some (.int .i64 l[k])
theorem IntsAt.calm {w w':World} {v:Value} {l:List Int} (h:IntsAt w v l) (hc:Calm w w'):IntsAt w' v l:=by
 obtain⟨a,cap,h1,h2,h4⟩:=h
 refine⟨a,cap,h1,h2,fun k hk=>?_⟩
 obtain⟨b,off,e,hb,hcell⟩:=h4 k hk
 exact⟨b,off,e,Nat.lt_of_lt_of_le hb hc.size,by rw[hc.cell (p:=⟨b,off+k,none⟩) hb];exact hcell⟩
def From (B:Nat) (v:Value):Prop:=∀b,v.ownBlock=some b→B≤b
abbrev intRow (l:List Int):List Value:=l.map fun n=>.int .i64 n
theorem own_ints {w:World} {base:Nat} {v:Value} {l:List Int} (h:w.ownsRow base 3 1 v l.length (intRow l)) (hl:l.length≤1000000):IntsAt w v l∧From base v:=by
 refine⟨?_,fun b hb=>(h.lt b hb).1⟩
 rcases h.2 with ⟨rfl,hn⟩|⟨g,cap,cur,rfl,hb,hg,hnc,hcm,hcs,htake⟩
 ·have:l=[]:=List.eq_nil_of_length_eq_zero hn
  subst this
  exact⟨none,0,rfl,⟨Nat.zero_le _,Nat.zero_le _⟩,fun k hk=>absurd hk (Nat.not_lt_zero _)⟩
 ·refine⟨_,cap,rfl,by omega,fun k hk=>⟨g,0,rfl,heap_lt hg,?_⟩⟩
  have:=h.cells (g:=g) rfl k (.int .i64 l[k]) (by simp [intRow,hk])
  rw[add_lit]at this
  rw[Nat.zero_add]
  exact this
theorem own_calm {w w':World} {base n:Nat} {v:Value} {e:TypeId} {size:Nat} {xs:List Value} (h:w.ownsRow base e size v n xs) (hc:Calm w w'):w'.ownsRow base e size v n xs :=
 row_same h (fun g hg=>hc.block g (h.lt g hg).2)
theorem Ints_any (v u:Value) (l m:List Int) (w:World) (h:IntsAt w v l) (g:IntsAt w u m):Calls Tryz.prog 32 #[v,u] w fun e w'=>e=.returned (.bool (decide (l=m)))∧Calm w w':=by
 obtain⟨a,acap,rfl,hal,ha⟩:=h
 obtain⟨b,bcap,rfl,hbl,hb⟩:=g
 by_cases hlen:l.length=m.length
 ·have ha':=box ha
  have hb':=box hb
  have Hl:=box hal
  unfold maxLen at hal
  clear ha hb hbl
  rw[←hlen]
  obtain⟨rr,hrr⟩:∃rr,decide (l=m)=rr:=⟨_,rfl⟩
  rw[hrr]
  have Hrr:=box hrr.symm
  clear hrr
  go_enter Tryz.func32,Tryz.ntmps32
  go_wp2_with fail
  go_loopw [5] (fun i wr=>∃k:Nat,k≤l.length∧i=.int .i64 k∧l.take k=m.take k∧Calm w wr) (fun i _=>l.length-(intOf i).toNat)
  case atStart=>exact⟨0,Nat.zero_le _,rfl,rfl,.refl _⟩
  case round =>
   obtain⟨k,hk,rfl,hpre,hC⟩:=hrel
   have Hpre:=box hpre
   have HC:=box hC
   clear hpre hC
   by_cases hlt:k<l.length
   ·obtain⟨ab,aoff,rfl,hal2,hac⟩:=ha'.out k hlt
    obtain⟨bb,boff,rfl,hbl2,hbc⟩:=hb'.out k (by omega)
    have hs1:=box (show l.take (k+1)=l.take k++[l[k]] from List.take_succ_eq_append_getElem hlt)
    have hs2:=box (show m.take (k+1)=m.take k++[m[k]'(by omega)] from List.take_succ_eq_append_getElem (by omega))
    have hne:=box (fun (h:l[k]≠m[k]'(by omega))=>(decide_eq_false (fun e=>h (by subst e;rfl)):decide (l=m)=false))
    obtain⟨x,hx⟩:∃x,l[k]=x:=⟨_,rfl⟩
    obtain⟨y,hy⟩:∃y,m[k]'(by omega)=y:=⟨_,rfl⟩
    rw[hx]at hac hs1 hne
    rw[hy]at hbc hs2 hne
    clear hx hy
    have hac':=(HC.out.cell (p:=⟨ab,aoff+k,none⟩) hal2).trans hac
    have hbc':=(HC.out.cell (p:=⟨bb,boff+k,none⟩) hbl2).trans hbc
    have hal3:=Nat.lt_of_lt_of_le hal2 HC.out.size
    have hbl3:=Nat.lt_of_lt_of_le hbl2 HC.out.size
    have hki:(k:Int)<(l.length:Int):=by omega
    have hk0:(0:Int)≤(k:Int):=by omega
    clear hac hbc
    by_cases heq:x=y
    ·subst heq
     go_wp2_with (first|go_quiet (fail)|fail)
     go_wp2_with fail
     go_roundw
     case rel=>exact⟨k+1,by omega,by go_num,by rw[hs1.out,hs2.out,Hpre.out],HC.out.drewN _⟩
     case measure=>simp [intOf];omega
    ·have hb1:(x != y)=true:=bne_iff_ne.2 heq
     have hne:=box (hne.out heq)
     clear heq
     go_wp2_with (first|go_quiet (fail)|fail)
     go_wp2_with fail
     go_ret
     exact⟨ret_bool (by rw[Hrr.out,hne.out]),HC.out.drewN _⟩
   ·obtain rfl:k=l.length:=by omega
    have hd:decide (l=m)=true:=decide_eq_true (by
     have:=Hpre.out
     rw[List.take_length,hlen,List.take_length]at this
     exact this)
    have hd:=box hd
    go_wp2_with fail
    go_ret
    exact⟨ret_bool (by rw[Hrr.out,hd.out]),HC.out⟩
 ·have hd:decide (l=m)=false:=decide_eq_false (fun e=>hlen (by rw[e]))
  have hne:(l.length==m.length)=false:=by rw[beq_eq_false_iff_ne];exact hlen
  rw[hd]
  clear hd ha hb
  go_enter Tryz.func32,Tryz.ntmps32
  go_wp2_with fail
  all_goals first|(go_ret;exact⟨rfl,.refl _⟩)|(exfalso;omega)
theorem row_base {w:World} {e:TypeId} {size n B:Nat} {v:Value} {xs:List Value} (h:w.ownsRow 0 e size v n xs) (hb:∀g,v.ownBlock=some g→B≤g):w.ownsRow B e size v n xs:=by
 refine⟨h.1,?_⟩
 rcases h.2 with h2|⟨g,cap,cur,rfl,_,h3⟩
 ·exact .inl h2
 ·exact .inr ⟨g,cap,cur,rfl,hb g rfl,h3⟩
theorem row_zero {w:World} {e:TypeId} {size n B:Nat} {v:Value} {xs:List Value} (h:w.ownsRow B e size v n xs):w.ownsRow 0 e size v n xs:=by
 refine⟨h.1,?_⟩
 rcases h.2 with h2|⟨g,cap,cur,rfl,_,h3⟩
 ·exact .inl h2
 ·exact .inr ⟨g,cap,cur,rfl,Nat.zero_le _,h3⟩
end Go.Proofs.YtiahjipoofeliaaGreatDoor

namespace Go.Proofs.YtiahjipoofeliaaGreatDoor.sg
open Go.ChangeShapes Go.WideShapes Go.ChangeAt Go.RowKit
open dk
abbrev intN (l:List Nat):List Value:=l.map fun n:Nat=>.int .i64 (n:Int)
def rowCells (p:Nat) (R:RowS) (v:Value):Array Value:=#[ptrTo p,.string R.head,.int .i64 R.size,v,.int .i64 R.fin,.int .i64 R.synced]
structure RowAt (w:World) (r p:Nat) (R:RowS) (v:Value):Prop where
 at_:w.heap[r]? = some (.cells (rowCells p R v) 128 (0,0))
 row:w.ownsRow 0 3 1 v R.cnt (intN R.places)
 ok:RowOk R
theorem RowAt.calm {w w':World} {r p:Nat} {R:RowS} {v:Value} (h:RowAt w r p R v) (hc:Calm w w'):RowAt w' r p R v:=⟨heap_calm hc h.at_,own_calm h.row hc,h.ok⟩
theorem RowAt.uni {w:World} {r p:Nat} {R:RowS} {v:Value} (h:RowAt w r p R v):∃a cap,v=.slice a R.cnt cap∧R.cnt≤cap∧cap≤maxLen∧∀k,k<R.cnt→∃b,a=some ⟨b,0,none⟩∧b<w.heap.size∧w.cell? ⟨b,k,none⟩=some (.int .i64 ((R.start+k * R.size:Nat):Int)):=by
 rcases h.row.2 with ⟨rfl,hn⟩|⟨g,cap,cur,rfl,hb,hg,hnc,hcm,hcs,htake⟩
 ·refine⟨none,0,by rw[hn],by omega,Nat.zero_le _,fun k hk=>by omega⟩
 ·refine⟨_,cap,rfl,by omega,by omega,fun k hk=>⟨g,rfl,heap_lt hg,?_⟩⟩
  have:=h.row.cells (g:=g) rfl k (.int .i64 ((R.start+k * R.size:Nat):Int)) (by
   unfold intN RowS.places plc
   simp [hk])
  rw[add_lit]at this
  exact this
section
variable {w:World} {r p:Nat} {R:RowS} {v:Value}
theorem RowAt.cells (h:RowAt w r p R v):w.cell? ⟨r,0,none⟩=some (ptrTo p)∧w.cell? ⟨r,1,none⟩=some (.string R.head)∧w.cell? ⟨r,2,none⟩=some (.int .i64 R.size)∧w.cell? ⟨r,3,none⟩=some v∧w.cell? ⟨r,4,none⟩=some (.int .i64 R.fin)∧w.cell? ⟨r,5,none⟩=some (.int .i64 R.synced) :=
 ⟨cell_of h.at_ 0,cell_of h.at_ 1,cell_of h.at_ 2,cell_of h.at_ 3,cell_of h.at_ 4,cell_of h.at_ 5⟩
theorem Begin_any (w:World) (h:RowAt w r p R v):Calls Tryz.prog 70 #[ptrTo r] w fun e w'=>e=.returned (.int .i64 (R.start:Int))∧w=w':=by
 obtain⟨c0,c1,c2,c3,c4,c5⟩:=h.cells
 have hlt:=heap_lt h.at_
 obtain⟨a,cap,rfl,hcap,hmx,hel⟩:=h.uni
 have hnone:=h.ok.none
 clear h
 by_cases h0:R.cnt=0
 ·have h1:=(hnone h0).1
  rw[h1]
  rw[h0]at c3 hcap
  clear hel hnone h1 h0
  go_enter Tryz.func70,Tryz.ntmps70
  go_wp2_with fail
  go_ret
  exact⟨rfl,rfl⟩
 ·obtain⟨b,rfl,hb,hc⟩:=hel 0 (by omega)
  rw[Nat.zero_mul,Nat.add_zero]at hc
  have h1:((R.cnt:Int)==0)=false:=beq_eq_false_iff_ne.2 (by omega)
  clear hel hnone
  go_enter Tryz.func70,Tryz.ntmps70
  go_wp2_with fail
  go_ret
  exact⟨rfl,rfl⟩
theorem End_any (w:World) (h:RowAt w r p R v):Calls Tryz.prog 57 #[ptrTo r] w fun e w'=>e=.returned (.int .i64 (R.fin:Int))∧w=w':=by
 obtain⟨c0,c1,c2,c3,c4,c5⟩:=h.cells
 have hlt:=heap_lt h.at_
 clear h
 go_enter Tryz.func57,Tryz.ntmps57
 go_wp2_with fail
 go_ret
 exact⟨rfl,rfl⟩
theorem Room_row (w:World) (h:RowAt w r p R v):Calls Tryz.prog 87 #[ptrTo r] w fun e w'=>e=.returned (.int .i64 (R.room:Int))∧∃n,w'=w.drewN n:=by
 obtain⟨c0,c1,c2,c3,c4,c5⟩:=h.cells
 have hlt:=heap_lt h.at_
 obtain⟨a,cap,rfl,hcap,hmx,hel⟩:=h.uni
 have hz:=h.ok.size
 have hle:=h.ok.le
 by_cases h0:0<R.cnt
 ·obtain⟨b,rfl,hb,hc⟩:=hel (R.cnt-1) (by omega)
  have hst:=RowOk.stop h0
  have hlf:=h.ok.least h0
  have hls:R.start+(R.cnt-1) * R.size=R.lastp:=rfl
  rw[hls]at hc
  have hfew:=h.ok.few
  have q1:IntKind.i64.wrap ((R.cnt:Int)-1)=((R.cnt-1:Nat):Int):=by rw[IntWalk.i64_in _ (by omega)];omega
  have q2:IntKind.i64.wrap ((R.lastp:Int)+R.size)=((R.stop:Nat):Int):=by rw[IntWalk.i64_in _ (by omega)];omega
  have q3:IntKind.i64.wrap ((R.stop:Int)-R.fin)=(R.stop:Int)-R.fin:=IntWalk.i64_in _ (by omega)
  have hroom:R.room=if R.fin<R.stop then R.stop-R.fin else R.size:=by unfold RowS.room;by_cases h1:R.fin<R.stop<;>simp [h0,h1]
  rw[hroom]
  obtain⟨n,hn⟩:∃n,R.cnt=n:=⟨_,rfl⟩
  obtain⟨m,hm⟩:∃m,n-1=m:=⟨_,rfl⟩
  obtain⟨lp,hlp⟩:∃m,R.lastp=m:=⟨_,rfl⟩
  obtain⟨st,hst2⟩:∃m,R.stop=m:=⟨_,rfl⟩
  rw[hn]at c3 hc h0 hcap q1
  rw[hm]at hc q1
  rw[hlp]at hc q2 hst
  rw[hst2]at q2 q3 hst ⊢
  have hmn:m<n:=by omega
  clear h hel hlf hls hroom hfew hz
  by_cases h1:R.fin<st
  ·rw[if_pos h1]
   have h2:((st-R.fin:Nat):Int)=(st:Int)-R.fin:=by omega
   rw[h2]
   have t1:decide ((R.fin:Int)<st)=true:=decide_eq_true (by omega)
   clear hst hle
   go_enter Tryz.func87,Tryz.ntmps87
   go_wp2_with (first|go_quiet (fail)|fail)
   go_ret
   exact⟨rfl,_,World.drewN_drewN _ _ _⟩
  ·rw[if_neg h1]
   have t1:decide ((R.fin:Int)<st)=false:=decide_eq_false (by omega)
   clear hst hle
   go_enter Tryz.func87,Tryz.ntmps87
   go_wp2_with (first|go_quiet (fail)|fail)
   go_ret
   exact⟨rfl,_,rfl⟩
 ·have h1:R.cnt=0:=by omega
  have hroom:R.room=R.size:=by unfold RowS.room;rw[if_neg (fun h=>h0 h.1)]
  rw[hroom]
  rw[h1]at c3
  clear h hel hz hle hroom
  go_enter Tryz.func87,Tryz.ntmps87
  go_wp2_with (first|go_quiet (fail)|fail)
  go_ret
  exact⟨rfl,_,rfl⟩
theorem quiet_of {f:FuncId} {args:Array Value} {w:World} {n:Nat} {v:Value}
  (h:Calls Tryz.prog f args (w.drewN n) fun e w'=>e=.returned v∧∃m,w'=(w.drewN n).drewN m):Calls Tryz.prog f args (w.drewN n) fun e w''=>e=.returned v∧∃m,w''=w.drewN m :=
 h.mono fun _ _ ⟨he,m,hm⟩=>⟨he,n+m,hm.trans (World.drewN_drewN _ _ _)⟩
theorem RowAt.drewN (h:RowAt w r p R v) (n:Nat):RowAt (w.drewN n) r p R v:=h.calm ((Calm.refl w).drewN n)
theorem of_any (k:Nat) (w:World) (h:RowAt w r p R v) (hk:k≤1000000000):Calls Tryz.prog 116 #[ptrTo r,.int .i64 (k:Int)] w fun e w'=>e=.returned (.int .i64 ((k / R.size * R.size:Nat):Int))∧∃n,w'=w.drewN n:=by
 obtain⟨c0,c1,c2,c3,c4,c5⟩:=h.cells
 have hlt:=heap_lt h.at_
 have hz:=h.ok.size
 have hq:Int.tdiv (k:Int) R.size=((k / R.size:Nat):Int):=by rw[Int.tdiv_eq_ediv_of_nonneg (by omega)];rfl
 have hm:=Nat.div_mul_le_self k R.size
 have hd:=Nat.div_le_self k R.size
 obtain⟨y,hy⟩:∃y,k / R.size=y:=⟨_,rfl⟩
 rw[hy]at hq hm hd ⊢
 have q1:IntKind.i64.wrap (y:Int)=(y:Int):=IntWalk.i64_in _ (by omega)
 have q2:IntKind.i64.wrap ((y:Int) * R.size)=((y * R.size:Nat):Int):=by rw[←Int.natCast_mul,IntWalk.i64_in _ (by omega)]
 have hne:((R.size:Int)==0)=false:=beq_eq_false_iff_ne.2 (by omega)
 have hne2:¬(R.size:Int)=0:=by omega
 clear h hm hd hz hy
 go_enter Tryz.func116,Tryz.ntmps116
 go_wp2_with (first|go_quiet (fail)|fail)
 go_ret
 exact⟨rfl,_,rfl⟩
theorem Begin_quiet (w:World) (n:Nat) (h:RowAt w r p R v):Calls Tryz.prog 70 #[ptrTo r] (w.drewN n) fun e w'=>e=.returned (.int .i64 (R.start:Int))∧∃m,w'=w.drewN m :=
 (Begin_any _ (h.drewN n)).mono fun _ _ ⟨he,hm⟩=>⟨he,n,hm.symm⟩
theorem of_quiet (k:Nat) (w:World) (n:Nat) (h:RowAt w r p R v) (hk:k≤1000000000):Calls Tryz.prog 116 #[ptrTo r,.int .i64 (k:Int)] (w.drewN n) fun e w'=>e=.returned (.int .i64 ((k / R.size * R.size:Nat):Int))∧∃m,w'=w.drewN m :=
 quiet_of (of_any k _ (h.drewN n) hk)
theorem Room_quiet (w:World) (n:Nat) (h:RowAt w r p R v):Calls Tryz.prog 87 #[ptrTo r] (w.drewN n) fun e w'=>e=.returned (.int .i64 (R.room:Int))∧∃m,w'=w.drewN m :=
 quiet_of (Room_row _ (h.drewN n))
theorem Left_any (k:Int) (w:World) (h:RowAt w r p R v):Calls Tryz.prog 99 #[ptrTo r,.int .i64 k] w fun e w'=>e=.returned (.int .i64 (R.left k:Int))∧∃n,w'=w.drewN n:=by
 obtain⟨c0,c1,c2,c3,c4,c5⟩:=h.cells
 have hlt:=heap_lt h.at_
 have hz:=h.ok.size
 have hle:=h.ok.le
 have HB:=box h
 by_cases h1:k<R.start
 ·have hl:R.left k=0:=by unfold RowS.left;rw[if_pos (.inl h1)]
  rw[hl]
  clear h hz hle hl
  go_enter Tryz.func99,Tryz.ntmps99
  go_wp2_with fail
  refine(Begin_any _ HB.out).mono ?_
  rintro e w' ⟨rfl,rfl⟩
  go_wp2_with fail
  go_ret
  exact⟨rfl,0,rfl⟩
 by_cases h2:(R.fin:Int)≤k
 ·have hl:R.left k=0:=by unfold RowS.left;rw[if_pos (.inr h2)]
  rw[hl]
  clear h hz hle hl
  go_enter Tryz.func99,Tryz.ntmps99
  go_wp2_with fail
  refine(Begin_any _ HB.out).mono ?_
  rintro e w' ⟨rfl,rfl⟩
  go_wp2_with fail
  go_ret
  exact⟨rfl,0,rfl⟩
 obtain⟨j,rfl⟩:∃j:Nat,k=j:=⟨k.toNat,by omega⟩
 have HO:=box (fun n=>of_quiet j w n h (by omega))
 have hl:R.left j=min (j / R.size * R.size+R.size) R.fin-j:=by unfold RowS.left;rw[if_neg (by omega),Int.toNat_natCast]
 have hm:=Nat.div_mul_le_self j R.size
 have hm2:=Nat.lt_div_mul_add (a:=j) (show 0<R.size by omega)
 rw[hl]
 obtain⟨y,hy⟩:∃y,j / R.size * R.size=y:=⟨_,rfl⟩
 rw[hy]at hm hm2 HO ⊢
 have b1:R.fin≤100004095:=hle.1
 have b2:y+R.size≤100008191:=by omega
 have b3:R.start≤j:=by omega
 have b4:j<R.fin:=by omega
 have b5:j<y+R.size:=by omega
 clear h hz hle hl hm hm2 h1 h2 hy
 go_enter Tryz.func99,Tryz.ntmps99
 go_wp2_with fail
 refine(Begin_any _ HB.out).mono ?_
 rintro e w' ⟨rfl,rfl⟩
 go_wp2_with (first|go_quiet ((go_at_call 116;exact HO.out _))|fail)
 all_goals
  go_ret
  refine⟨ret_int ?_,_,rfl⟩
  omega
end
end Go.Proofs.YtiahjipoofeliaaGreatDoor.sg
