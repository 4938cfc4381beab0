/- Lemmas for this claim. -/
import Derived.Test.YtiahjipoofeliaaGreatDoorPk24
set_option maxRecDepth 100000
namespace Go.Proofs.YtiahjipoofeliaaGreatDoor.sg
open dk
structure AppF (ws:List WaitS) (f:FileS):Prop where
 pre:f.image.data.toList <+: f.now.data.toList
 waits:∀x∈ws,x.blk=f.blk→f.image.size≤x.off∧(f.now.data.toList.drop x.off).take x.s.size=x.s.data.toList∧x.off+x.s.size≤f.now.size
section
variable {D E:DiskS} {R:RowS} {b:List UInt8} {c m:Nat} {head:ByteArray} {size:Nat}
theorem laid_grow (s t:ByteArray):(laid s s.size t).data.toList=s.data.toList++t.data.toList:=bytes_end s t
structure OutL (now img cur:List UInt8):Prop where
 least:img.length≤cur.length
 most:cur.length≤now.length
 each:∀j,j<cur.length→cur[j]? = now[j]? ∨ (cur[j]? = some 0∧img.length≤j)
theorem kept_pre {keep:List Bool} {lack i:Nat} {L:List WaitS} {y:WaitS} (h:keptAt keep lack L i=some y):∃x∈L,y.blk=x.blk∧y.off=x.off∧y.s.data.toList <+: x.s.data.toList:=by
 unfold keptAt at h
 cases hx:L[i]? with
 | none=>rw[hx]at h;cases h
 | some x =>
  rw[hx]at h
  simp only at h
  split at h
  ·cases h
   refine⟨x,List.mem_of_getElem? hx,rfl,rfl,?_⟩
   simp only
   split
   ·exact List.prefix_refl _
   ·rw[extract_list,List.drop_zero];exact List.take_prefix _ _
  ·cases h
theorem keptTo_pre {keep:List Bool} {lack k:Nat} {L:List WaitS} {y:WaitS} (h:y∈keptTo keep lack L k):∃x∈L,y.blk=x.blk∧y.off=x.off∧y.s.data.toList <+: x.s.data.toList:=by
 unfold keptTo at h
 obtain⟨i,_,hi⟩:=List.mem_filterMap.1 h
 exact kept_pre hi
theorem laidL_out {now img cur over:List UInt8} {off:Nat} (h:OutL now img cur) (h1:img.length≤off) (h2:over <+: now.drop off) (h3:off+over.length≤now.length):OutL now img (laidL cur off over):=by
 unfold laidL
 by_cases h0:over=[]
 ·rw[if_pos h0];exact h
 rw[if_neg h0]
 have hpl:(pad cur (off+over.length)).length=max cur.length (off+over.length):=by unfold pad;rw[List.length_append,List.length_replicate];omega
 have hlen:((pad cur (off+over.length)).take off++over++(pad cur (off+over.length)).drop (off+over.length)).length=max cur.length (off+over.length):=by
  rw[List.length_append,List.length_append,List.length_take,List.length_drop,hpl];omega
 have hpad:∀j,j<max cur.length (off+over.length)→(pad cur (off+over.length))[j]? = if j<cur.length then cur[j]? else some 0:=fun j hj=>by
  unfold pad
  by_cases hc:j<cur.length
  ·rw[if_pos hc,List.getElem?_append_left hc]
  ·rw[if_neg hc,List.getElem?_append_right (by omega),List.getElem?_replicate,if_pos (by omega)]
 refine⟨by rw[hlen];have:=h.least;omega,by rw[hlen];have:=h.most;omega,fun j hj=>?_⟩
 rw[hlen]at hj
 by_cases hj1:j<off
 ·rw[List.append_assoc,List.getElem?_append_left (by rw[List.length_take,hpl];omega),List.getElem?_take_of_lt hj1,hpad j hj]
  by_cases hc:j<cur.length
  ·rw[if_pos hc];exact h.each j hc
  ·rw[if_neg hc];right;exact⟨rfl,by have:=h.least;omega⟩
 ·by_cases hj2:j<off+over.length
  ·left
   rw[List.append_assoc,List.getElem?_append_right (by rw[List.length_take,hpl];omega),List.length_take,hpl,Nat.min_eq_left (by omega),List.getElem?_append_left (by omega)]
   obtain⟨t,ht⟩:=h2
   have e1:now[j]? = (now.drop off)[j-off]? := by rw[List.getElem?_drop];congr 1;omega
   rw[e1,←ht,List.getElem?_append_left (by omega)]
  ·rw[List.getElem?_append_right (by rw[List.length_append,List.length_take,hpl];omega),List.length_append,List.length_take,hpl,Nat.min_eq_left (by omega),List.getElem?_drop]
   rw[show off+over.length+(j-(off+over.length))=j by omega,hpad j hj,if_pos (by omega)]
   exact h.each j (by omega)
theorem lays_out {now img:List UInt8} (bk:Nat):∀(K:List WaitS) (s:ByteArray),OutL now img s.data.toList→(∀y∈K,y.blk=bk→img.length≤y.off∧y.s.data.toList <+: now.drop y.off∧y.off+y.s.size≤now.length)→OutL now img (lays s bk K).data.toList
 | [],s,h,_=>h
 | y :: K,s,h,hK=>by
  unfold lays
  rw[List.foldl_cons]
  refine lays_out bk K _ ?_ (fun z hz=>hK z (List.mem_cons_of_mem _ hz))
  split
  ·rename_i hb
   obtain⟨k1,k2,k3⟩:=hK y (List.mem_cons_self ..) hb
   exact laidL_out h k1 k2 (by rw[size_toList];exact k3)
  ·exact h
theorem AppF.crashed {ws:List WaitS} {f:FileS} (h:AppF ws f) (keep:List Bool) (lack k:Nat):OutL f.now.data.toList f.image.data.toList (lays f.image f.blk (keptTo keep lack ws k)).data.toList:=by
 refine lays_out f.blk _ _ ⟨Nat.le_refl _,h.pre.length_le,fun j hj=>.inl ?_⟩ (fun y hy hb=>?_)
 ·obtain⟨t,ht⟩:=h.pre
  rw[←ht,List.getElem?_append_left hj]
 ·obtain⟨x,hx,e1,e2,e3⟩:=keptTo_pre hy
  obtain⟨a1,a2,a3⟩:=h.waits x hx (by rw[←e1,hb])
  have hl:=e3.length_le
  rw[size_toList,size_toList]at hl
  refine⟨by rw[size_toList,e2];exact a1,?_,by rw[size_toList,e2];omega⟩
  rw[e2]
  refine e3.trans ?_
  rw[←a2]
  exact List.take_prefix _ _
theorem crashed_find (keep:List Bool) (lack:Int) (n:ByteArray):(D.crashed keep lack).find n=(D.find n).map fun f=>{ f with image:=lays f.image f.blk (keptTo keep lack.toNat D.waits (min keep.length D.waits.length)),now:=lays f.image f.blk (keptTo keep lack.toNat D.waits (min keep.length D.waits.length)) }:=by
 unfold DiskS.crashed DiskS.imaged DiskS.find
 simp only
 rw[List.map_map,List.find?_map]
 rfl
theorem crashed_names (keep:List Bool) (lack:Int):(D.crashed keep lack).files.map (·.name)=D.files.map (·.name):=by
 unfold DiskS.crashed DiskS.imaged
 simp only
 rw[List.map_map,List.map_map]
 rfl
def concatN (L:Nat→List UInt8):Nat→List UInt8
 | 0=>[]
 | n+1=>concatN L n++L n
theorem concat_length {L:Nat→List UInt8} {size:Nat}:∀n,(∀i,i+1<n→(L i).length=size)→(concatN L n).length=(n-1) * size+(if n=0 then 0 else (L (n-1)).length)
 | 0,_=>by simp [concatN]
 | 1,_=>by simp [concatN]
 | n+2,h=>by
  have h1:=concat_length (n+1) (fun i hi=>h i (by omega))
  have h2:=h n (by omega)
  rw[concatN,List.length_append,h1,if_neg (by omega),if_neg (by omega),show n+2-1=n+1 by omega,show n+1-1=n by omega,h2,Nat.succ_mul]
theorem concat_seg {L:Nat→List UInt8} {size:Nat}:∀n,(∀i,i+1<n→(L i).length=size)→(∀i,i<n→(L i).length≤size)→∀i,i<n→segL (concatN L n) size i=L i
 | 0,_,_,i,hi=>absurd hi (Nat.not_lt_zero _)
 | n+1,h1,h2,i,hi=>by
  have hl:=concat_length (L:=L) (size:=size) n (fun j hj=>h1 j (by omega))
  by_cases he:i=n
  ·subst he
   have hlen:(concatN L i).length=i * size:=by
    rw[hl]
    cases i with
    | zero=>simp
    | succ i=>rw[if_neg (by omega),Nat.add_sub_cancel,h1 i (by omega),Nat.succ_mul]
   unfold segL
   rw[concatN,←hlen,List.drop_left,List.take_of_length_le (h2 i (by omega))]
  ·have hin:i<n:=by omega
   have hlen:(concatN L n).length=n * size:=by
    rw[hl,if_neg (by omega),h1 (n-1) (by omega)]
    obtain⟨k,rfl⟩:∃k,n=k+1:=⟨n-1,by omega⟩
    rw[Nat.add_sub_cancel,Nat.succ_mul]
   have:=plc_lt (size:=size) hin
   rw[concatN,seg_append _ _ _ _ (by omega)]
   exact concat_seg n (fun j hj=>h1 j (by omega)) (fun j hj=>h2 j (by omega)) i hin
theorem found_cut {start cnt:Nat} (hs:0<size) (hmod:start%size=0) (hP:placesL D head=plc start size cnt) (hle:∀i,i<cnt→D.len (nameB head (start+i * size))≤size) :
  ∃c wh,c≤cnt∧(0<cnt→0<c)∧(∀i,i+1<c→D.len (nameB head (start+i * size))=size)∧(c<cnt→D.len (nameB head (start+(c-1) * size))<size) ∧
   foundD D head size=⟨if c=0 then 0 else start,c,if c=0 then 0 else start+(c-1) * size+D.len (nameB head (start+(c-1) * size)),wh,((plc start size cnt).drop c).map (nameB head)⟩:=by
 have key:∀n,n≤cnt→∃c wh,c≤n∧(0<n→0<c)∧(∀i,i+1<c→D.len (nameB head (start+i * size))=size)∧(wh=true→c=n)∧(wh=true→0<c→D.len (nameB head (start+(c-1) * size))=size)∧(wh=false→0<c∧D.len (nameB head (start+(c-1) * size))<size) ∧
   (plc start size n).foldl (fun x k=>findStep size x (nameB head k) k (D.len (nameB head k))) ⟨0,0,0,true,[]⟩=⟨if c=0 then 0 else start,c,if c=0 then 0 else start+(c-1) * size+D.len (nameB head (start+(c-1) * size)),wh,((plc start size n).drop c).map (nameB head)⟩:=by
  intro n
  induction n with
  | zero=>exact fun _=>⟨0,true,Nat.le_refl _,fun h=>absurd h (Nat.lt_irrefl 0),fun i hi=>absurd hi (by omega),fun _=>rfl,fun _ h=>absurd h (Nat.lt_irrefl 0),fun h=>(by cases h),rfl⟩
  | succ n ih =>
   intro hn
   obtain⟨c,wh,c1,c2,c3,c4,c5,c6,c7⟩:=ih (by omega)
   have hm:(start+n * size)%size=0:=by rw[Nat.add_mul_mod_self_right];exact hmod
   have hl:=hle n (by omega)
   rw[plc_snoc,List.foldl_append,c7,List.foldl_cons,List.foldl_nil]
   cases wh with
   | true =>
    have hc:=c4 rfl
    subst hc
    have hfull:=c5 rfl
    have hfol:c=0∨start+c * size=if c=0 then 0 else start+(c-1) * size+D.len (nameB head (start+(c-1) * size)):=by
     rcases Nat.eq_zero_or_pos c with h0|h0
     ·exact .inl h0
     ·right
      rw[if_neg (by omega),hfull h0]
      obtain⟨k,rfl⟩:∃k,c=k+1:=⟨c-1,by omega⟩
      rw[Nat.add_sub_cancel,Nat.succ_mul];omega
    refine⟨c+1,decide (D.len (nameB head (start+c * size))=size),Nat.le_refl _,fun _=>Nat.succ_pos _,fun i hi=>?_,fun _=>rfl,fun h _=>?_,fun h=>⟨Nat.succ_pos _,?_⟩,?_⟩
    ·by_cases he:i+1=c
     ·have:=hfull (by omega)
      rwa[←he,Nat.add_sub_cancel]at this
     ·exact c3 i (by omega)
    ·rw[Nat.add_sub_cancel];exact of_decide_eq_true h
    ·rw[Nat.add_sub_cancel]
     have:=of_decide_eq_false h
     omega
    ·unfold findStep
     rw[if_neg (by omega),if_neg (by
      intro hc
      rcases hc with hc|hc|hc
      ·cases hc
      ·exact hc hfol
      ·omega)]
     rw[FoundS.mk.injEq]
     refine⟨?_,rfl,?_,rfl,?_⟩
     ·show (if c=0 then start+c * size else if c=0 then 0 else start)=if c+1=0 then 0 else start
      rw[if_neg (show ¬c+1=0 by omega)]
      by_cases h0:c=0
      ·subst h0;simp
      ·rw[if_neg h0,if_neg h0]
     ·rw[if_neg (show ¬c+1=0 by omega),Nat.add_sub_cancel]
     ·show ((plc start size c).drop c).map (nameB head)=_
      rw[List.drop_of_length_le (by rw[plc_length];exact Nat.le_refl _),List.drop_of_length_le (by rw[List.length_append,plc_length];exact Nat.le_refl _)]
   | false =>
    obtain⟨d1,d2⟩:=c6 rfl
    refine⟨c,false,by omega,fun _=>d1,c3,fun h=>(by cases h),fun h=>(by cases h),fun _=>⟨d1,d2⟩,?_⟩
    unfold findStep
    rw[if_neg (by omega),if_pos (.inl rfl)]
    rw[FoundS.mk.injEq]
    refine⟨rfl,rfl,rfl,rfl,?_⟩
    show ((plc start size n).drop c).map (nameB head)++[nameB head (start+n * size)]=_
    rw[List.drop_append_of_le_length (by rw[plc_length];exact c1),List.map_append]
    rfl
 obtain⟨c,wh,c1,c2,c3,c4,c5,c6,c7⟩:=key cnt (Nat.le_refl _)
 refine⟨c,wh,c1,c2,c3,fun h=>?_,by rw[found_places,hP];exact c7⟩
 cases wh with
 | true=>have:=c4 rfl;omega
 | false=>exact(c6 rfl).2
end
section
variable {D E:DiskS} {R:RowS} {b:List UInt8} {c m:Nat}
theorem files_find {n x:ByteArray} {blk:Nat} {f:FileS} (he:E.files=D.files++[⟨n,blk,⟨#[]⟩,⟨#[]⟩⟩]) (h:E.find x=some f):D.find x=some f∨x=n:=by
 unfold DiskS.find at h ⊢
 rw[he,List.find?_append]at h
 cases hx:D.files.find? (fun f:FileS=>decide (f.name=x)) with
 | some g=>rw[hx]at h;exact .inl h
 | none =>
  rw[hx]at h
  right
  have:=List.find?_some (by simpa using h:[(⟨n,blk,⟨#[]⟩,⟨#[]⟩⟩:FileS)].find? (fun f:FileS=>decide (f.name=x))=some f)
  have hm:=List.mem_of_find?_eq_some (by simpa using h:[(⟨n,blk,⟨#[]⟩,⟨#[]⟩⟩:FileS)].find? (fun f:FileS=>decide (f.name=x))=some f)
  rw[List.mem_singleton]at hm
  subst hm
  exact(of_decide_eq_true this).symm
theorem find_name {x:ByteArray} {l:List FileS} {g:FileS} (h:l.find? (fun f:FileS=>decide (f.name=x))=some g):g.name=x:=by
 have:=List.find?_some h
 simpa using this
theorem last_find {n x:ByteArray} {f:FileS} (h:(D.last n).find x=some f):∃g,D.find x=some g∧g.now=f.now∧(f.image=g.image∨f.image=g.now)∧(x=n→f.image=g.now):=by
 unfold DiskS.last at h
 cases hn:D.find n with
 | none =>
  rw[hn]at h
  refine⟨f,h,rfl,.inl rfl,fun e=>?_⟩
  subst e
  rw[hn]at h;cases h
 | some g0 =>
  rw[hn]at h
  simp only at h
  unfold DiskS.turn DiskS.without DiskS.find at h
  simp only at h
  rw[List.find?_map]at h
  have e1:∀(g:FileS→FileS),(∀y,(g y).name=y.name)→((fun f:FileS=>decide (f.name=x)) ∘ g)=fun f:FileS=>decide (f.name=x):=fun g hg=>by funext y;simp [Function.comp,hg]
  rw[e1 _ (fun y=>by split<;>rfl)]at h
  cases hx:D.files.find? (fun f:FileS=>decide (f.name=x)) with
  | none=>rw[hx]at h;cases h
  | some g =>
   rw[hx]at h
   simp only[Option.map_some,Option.some.injEq]at h
   have hgn:g.name=x:=find_name hx
   refine⟨g,hx,?_,?_,fun e=>?_⟩
   ·rw[←h];split<;>rfl
   ·rw[←h];split
    ·exact .inr rfl
    ·exact .inl rfl
   ·rw[←h,if_pos (hgn.trans e)]
theorem lasts_find {x:ByteArray} {f:FileS}:∀(l:List ByteArray) {D:DiskS},(l.foldl DiskS.last D).find x=some f→∃g,D.find x=some g∧g.now=f.now∧(f.image=g.image∨f.image=g.now)∧(x∈l→f.image=g.now)
 | [],D,h=>⟨f,h,rfl,.inl rfl,fun h=>by cases h⟩
 | n :: l,D,h=>by
  rw[List.foldl_cons]at h
  obtain⟨g,h1,h2,h3,h4⟩:=lasts_find l h
  obtain⟨k,k1,k2,k3,k4⟩:=last_find h1
  refine⟨k,k1,k2.trans h2,?_,fun hx=>?_⟩
  ·rcases h3 with h3|h3
   ·rw[h3];exact k3
   ·rw[h3];exact .inr k2.symm
  ·rcases List.mem_cons.1 hx with e|hx
   ·rcases h3 with h3|h3
    ·rw[h3];exact k4 e
    ·rw[h3,k2]
   ·rw[h4 hx,k2]
theorem plc_inDrop {a s n k i:Nat} (hs:0<s) (hi:i<n) (hk:k≤n):a+i * s∈(plc a s n).drop k↔k≤i:=by
 rw[List.mem_iff_getElem?]
 constructor
 ·rintro⟨j,hj⟩
  rw[List.getElem?_drop]at hj
  unfold plc at hj
  rw[List.getElem?_map]at hj
  by_cases hjn:k+j<n
  ·rw[List.getElem?_range hjn]at hj
   have hj:a+(k+j) * s=a+i * s:=by simpa using hj
   have:(k+j) * s=i * s:=by omega
   have:=Nat.eq_of_mul_eq_mul_right hs this
   omega
  ·rw[List.getElem?_eq_none (by rw[List.length_range];omega)]at hj;cases hj
 ·intro h
  refine⟨i-k,?_⟩
  rw[List.getElem?_drop]
  unfold plc
  rw[List.getElem?_map,show k+(i-k)=i by omega,List.getElem?_range hi]
  rfl
theorem Holds.read (h:Holds D R b) (ha:Alive D) (k m:Nat) (h1:R.start≤k) (h2:k+m≤R.fin) (h3:m≤R.size-k%R.size):readD D R (k:Int) (m:Int)=(bA ((b.drop (k-R.start)).take m),0):=by
 have hz:=h.ok.size
 unfold readD
 rw[if_neg (by rw[ha.down];decide)]
 by_cases h0:m=0
 ·subst h0
  rw[if_pos (by omega),List.take_zero];rfl
 rw[if_neg (by omega)]
 have hdm:=Nat.div_add_mod k R.size
 rw[Nat.mul_comm]at hdm
 have hml:=Nat.mod_lt k (show 0<R.size by omega)
 have hleft:m≤R.left (k:Int):=by
  unfold RowS.left
  rw[if_neg (by omega),Int.toNat_natCast]
  omega
 rw[if_neg (by omega),Int.toNat_natCast]
 obtain⟨s0,hs0⟩:∃s0,R.start=s0 * R.size:=⟨R.start / R.size,(Nat.div_mul_cancel (Nat.dvd_of_mod_eq_zero h.ok.mod)).symm⟩
 have hq:s0≤k / R.size:=(Nat.le_div_iff_mul_le (by omega)).2 (by omega)
 obtain⟨i,hi⟩:∃i,k / R.size=s0+i:=⟨k / R.size-s0,by omega⟩
 have hqi:k / R.size * R.size=R.start+i * R.size:=by rw[hi,Nat.add_mul,hs0]
 have h0c:0<R.cnt:=by
  rcases Nat.eq_zero_or_pos R.cnt with h0|h0
  ·have:=h.ok.none h0;omega
  ·exact h0
 have hfin:=h.ok.fin h0c
 have hst:R.stop=R.start+R.cnt * R.size:=rfl
 have hic:i<R.cnt:=by
  by_cases hic:i<R.cnt
  ·exact hic
  ·have:=Nat.mul_le_mul_right R.size (show R.cnt≤i by omega)
   omega
 have hsz:=h.size
 rw[hqi,show ((k:Int)-((R.start+i * R.size:Nat):Int))=((k-(R.start+i * R.size):Nat):Int) by omega]
 rw[read_bytes ha (h.segs i hic) _ _ (by rw[bA_size,seg_length];omega)]
 congr 1
 refine ba_ext ?_
 rw[extract_list,bA_list,bA_list]
 unfold segL
 rw[List.take_take,Nat.min_eq_left (by omega),List.drop_take,List.drop_drop]
 congr 1
 ·omega
 ·congr 1;omega
end
end Go.Proofs.YtiahjipoofeliaaGreatDoor.sg

namespace Go.Proofs.YtiahjipoofeliaaGreatDoor.sg
open Go.ChangeShapes Go.WideShapes Go.ChangeAt Go.RowKit
open dk
section
variable {W w w' w1:World} {r p n:Nat} {R R' R1:RowS} {v v' v1 nv:Value} {D D':DiskS} {F F':Nat→Prop}
set_option maxHeartbeats 1000000 in
theorem Len_any (s:ByteArray) (w:World) (h:DiskAt w p D F):Calls Tryz.prog 151 #[ptrTo p,.string s] w fun e w'=>e=.returned (.int .i64 (D.len s:Int))∧w=w':=by
 obtain⟨mb,wv,h,rfl⟩:=h
 obtain⟨c0,c1,c2,c3,c4⟩:=h.cells
 have hlt:=heap_lt h.obj
 have hlook:=h.look s
 unfold DiskS.len
 cases hf:D.find s with
 | none =>
  rw[ptr_none hf]at hlook
  clear h hf
  go_enter Tryz.func151,Tryz.ntmps151
  go_wp2_with fail
  go_ret
  exact⟨rfl,rfl⟩
 | some f =>
  rw[ptr_some hf]at hlook
  obtain⟨d0,d1,d2,d3⟩:=h.file hf
  have hfl:=heap_lt (h.files f (find_some hf).1)
  clear h hf
  go_enter Tryz.func151,Tryz.ntmps151
  go_wp2_with fail
  go_ret
  exact⟨rfl,rfl⟩
theorem append_name2 (w:World) (v:Value) (l:List ByteArray) (x:ByteArray) (g0:Nat) (h:w.ownsRow 0 9 1 v l.length (l.map Value.string)) (hb:w.heap[g0]? = some (.cells #[.string x] 9 (0,0))) (hl:l.length≤100000000) (ty:TypeId) :
  ∃v' w',(Builtin.append_ #[61,61] ty #[v,.slice (some ⟨g0,0,none⟩) 1 1]).run Tryz.prog w=.ok v' w'∧w'.ownsRow 0 9 1 v' (l++[x]).length ((l++[x]).map Value.string)∧Keeps (fun g=>v.ownBlock=some g) w w'∧∀g,v'.ownBlock=some g→v.ownBlock=some g∨w.heap.size≤g:=by
 obtain⟨i0,hi,hz0,hz1,hz2⟩:=info_parts infoStr
 obtain⟨v',w',h1,h2,h3,h4⟩:=append_own (P:=Tryz.prog) w 61 ty 9 i0 _ 1 16 Tryz.underlying61 hi hz0 hz1 hz2 (by kernel_rfl) (by decide) v l.length _ h ⟨g0,0,none⟩ 1 1 (by decide) [.string x] rfl (fun j u hj=>by
   rw[add_lit,cell_of hb]
   match j,hj with
   | 0,hj=>exact hj
   | k+1,hj=>simp at hj) (fun u hu=>by
   rcases List.mem_cons.1 hu with rfl|hu
   ·rfl
   cases hu) (by simp only[maxLen];omega) (by omega)
 refine⟨v',w',h1,?_,h3,fun g hg=>?_⟩
 ·rw[List.length_append,List.map_append];exact h2
 ·rcases h4 with h4|h4
  ·exact .inl (h4.symm.trans hg)
  ·rw[h4]at hg;cases hg;exact .inr (Nat.le_refl _)
def FoundS.row0 (x:FoundS) (head:ByteArray) (size:Nat):RowS:=⟨head,size,x.start,x.cnt,x.fin,0⟩
theorem FoundOk.row0 {size:Nat} {x:FoundS} (h:FoundOk size x) (hs:16≤size∧size≤4096) (head:ByteArray) (hh:head.size≤1000000):RowOk (x.row0 head size) :=
 ⟨hs,hh,fun e=>⟨(h.none e).1,(h.none e).2.1⟩,fun e=>h.fin e,fun e=>h.least e,h.mod,Nat.zero_le _⟩
structure FdS (W w1:World) (r p n:Nat) (D:DiskS) (head:ByteArray) (size:Nat) (F:Nat→Prop) (x:FoundS) (v nv:Value) (w:World):Prop where
 seg:SegAt W w r p n D (x.row0 head size) F v
 keep:Keeps (fun b=>b=r∨w1.heap.size≤b) w1 w
 vW:∀g,v.ownBlock=some g→w1.heap.size≤g
 oth:w.ownsRow 0 9 1 nv x.others.length (x.others.map Value.string)
 nW:∀g,nv.ownBlock=some g→w1.heap.size≤g
variable {head:ByteArray} {size:Nat} {x:FoundS}
theorem FdS.calm (h:FdS W w1 r p n D head size F x v nv w) (hc:Calm w w'):FdS W w1 r p n D head size F x v nv w' :=
 ⟨h.seg.drew hc,h.keep.calm hc,h.vW,own_calm h.oth hc,h.nW⟩
theorem RowAt.keep {G:Nat→Prop} (h:RowAt w r p R v) (k:Keeps G w w') (hr:¬G r) (hv:∀g,v.ownBlock=some g→¬G g):RowAt w' r p R v :=
 ⟨(k.block r (heap_lt h.at_) hr).trans h.at_,row_same h.row (fun g hg=>k.block g (h.row.lt g hg).2 (hv g hg)),h.ok⟩
theorem rows_apart {n m:Nat} {xs ys:List Value} (h:w.ownsRow 0 3 1 v n xs) (k:w.ownsRow 0 9 1 nv m ys) {g:Nat} (hg:v.ownBlock=some g):nv.ownBlock≠some g:=fun e=>by
 obtain⟨c1,h1⟩:=own_row h hg
 obtain⟨c2,h2⟩:=own_row k e
 rw[h1]at h2;simp only[Option.some.injEq,Obj.cells.injEq]at h2;exact absurd h2.2.1 (by decide)
theorem FdS.other {nv':Value} (h:FdS W w1 r p n D head size F x v nv w) (hFw:∀b,F b→b<w1.heap.size) (hrw:r<w1.heap.size) (s:ByteArray) (b:Bool) (k:Keeps (fun g=>nv.ownBlock=some g) w w') (hrow:w'.ownsRow 0 9 1 nv' (x.others++[s]).length ((x.others++[s]).map Value.string)) (hg:∀g,nv'.ownBlock=some g→nv.ownBlock=some g∨w.heap.size≤g) :
  FdS W w1 r p n D head size F { x with others:=x.others++[s],whole:=b } v nv' w':=by
 have hr:nv.ownBlock≠some r:=fun e=>by have:=h.nW r e;omega
 refine⟨⟨h.seg.disk.keep k (fun b hb e=>by have:=hFw b hb;have:=h.nW b e;omega),h.seg.row.keep k hr (fun g hg=>rows_apart h.seg.row.row h.oth hg),h.seg.tab,?_,h.seg.fW,h.seg.rW,h.seg.vW⟩,h.keep.trans' ?_,h.vW,hrow,fun g e=>?_⟩
 ·have hW:W.heap.size≤w1.heap.size:=Nat.le_trans h.seg.rW (Nat.le_of_lt hrw)
  exact Below.trans h.seg.calm (k.below h.seg.calm.size (fun b e=>Nat.le_trans hW (h.nW b e)))
 ·exact⟨k.os,k.tape,k.output,by have:=k.size;have:=h.keep.size;omega,fun i hi hn=>k.block i (by have:=h.keep.size;omega) (fun e=>hn (.inr (h.nW i e)))⟩
 ·rcases hg g e with h1|h1
  ·exact h.nW g h1
  ·exact Nat.le_trans h.keep.size h1
end
end Go.Proofs.YtiahjipoofeliaaGreatDoor.sg
