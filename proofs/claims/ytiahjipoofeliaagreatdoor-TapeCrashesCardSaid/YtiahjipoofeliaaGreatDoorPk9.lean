/- Lemmas for this claim. -/
import Derived.Test.YtiahjipoofeliaaGreatDoorPk8
set_option maxRecDepth 100000
namespace Go.Proofs.YtiahjipoofeliaaGreatDoor.dk
open Go.ChangeShapes Go.WideShapes Go.ChangeAt Go.RowKit
section
variable {w w' w1:World} {p mb:Nat} {wv wv':Value} {D:DiskS} {F:Nat→Prop}
def keptAt (keep:List Bool) (lack:Nat) (L:List WaitS) (i:Nat):Option WaitS :=
 match L[i]? with
 | none=>none
 | some x=>if keep.getD i false then some { x with s:=if ((keep.take L.length).drop (i+1)).contains true then x.s else x.s.extract 0 (x.s.size-lack) } else none
def keptTo (keep:List Bool) (lack:Nat) (L:List WaitS) (k:Nat):List WaitS:=(List.range k).filterMap (keptAt keep lack L)
def DiskS.imaged (D:DiskS) (K:List WaitS):DiskS:={ D with files:=D.files.map fun f=>{ f with image:=lays f.image f.blk K } }
def DiskS.crashed (D:DiskS) (keep:List Bool) (lack:Int):DiskS :=
 ⟨-1,false,D.cap,(D.imaged (keptTo keep lack.toNat D.waits (min keep.length D.waits.length))).files.map fun f=>{ f with now:=f.image },[]⟩
theorem imaged_nil:D.imaged []=D:=by
 unfold DiskS.imaged lays
 have:(D.files.map fun f=>({ f with image:=f.image }:FileS))=D.files:=by rw[List.map_id'' (fun f=>rfl)]
 simp only[List.foldl_nil]
 rw[this]
theorem imaged_foot (K:List WaitS):(D.imaged K).files.map (·.blk)=D.files.map (·.blk):=by
 unfold DiskS.imaged;simp [List.map_map,Function.comp_def]
theorem foot_imaged (K:List WaitS):foot p mb wv (D.imaged K)=foot p mb wv D:=by unfold foot;rw[imaged_foot]
theorem keptTo_succ (keep:List Bool) (lack:Nat) (L:List WaitS) (k:Nat):keptTo keep lack L (k+1)=keptTo keep lack L k++(keptAt keep lack L k).toList:=by
 unfold keptTo
 rw[List.range_succ,List.filterMap_append]
 congr 1
theorem DiskIn.find_mem (h:DiskIn w p mb wv D) {f:FileS} (hf:f∈D.files):D.find f.name=some f:=by
 cases hx:D.find f.name with
 | none=>exact absurd rfl (find_none hx f hf)
 | some g =>
  obtain⟨h1,h2⟩:=find_some hx
  rw[nodup_inj h.names h1 hf h2]
def imgF (j:Nat) (s:ByteArray) (f:FileS):FileS:={ f with image:=laid f.image j s }
theorem DiskIn.imaged_snoc (h:DiskIn w p mb wv D) {f:FileS} (hf:f∈D.files) (K:List WaitS) (x:WaitS) (hx:x.blk=f.blk) :
  D.imaged (K++[x])=(D.imaged K).turn f.name (imgF x.off x.s):=by
 unfold DiskS.imaged DiskS.turn
 simp only[List.map_map]
 congr 1
 apply List.map_congr_left
 intro y hy
 simp only[Function.comp,lays,List.foldl_append,List.foldl_cons,List.foldl_nil]
 by_cases hn:y.name=f.name
 ·have:y=f:=nodup_inj h.names hy hf hn
  subst this
  rw[if_pos hx,if_pos rfl]
  rfl
 ·have hb:¬x.blk=y.blk:=fun e=>hn (by rw[nodup_inj h.blks hy hf (by rw[←e,hx])])
  rw[if_neg hb,if_neg hn]
theorem imaged_mem {K:List WaitS} (h:DiskIn w p mb wv (D.imaged K)) {f:FileS} (hf:f∈D.files):(D.imaged K).find f.name=some { f with image:=lays f.image f.blk K } :=
 h.find_mem (f:={ f with image:=lays f.image f.blk K }) (List.mem_map.2 ⟨f,hf,rfl⟩)
theorem laid_size (s:ByteArray) (k:Nat) (o:ByteArray):(laid s k o).size≤max s.size (k+o.size):=by
 unfold laid laidL pad
 split
 ·show s.data.toList.toArray.size≤_
  simp;omega
 ·show (_:List UInt8).toArray.size≤_
  simp;omega
theorem lays_size (B:Nat) (b:Nat):∀(K:List WaitS) (image:ByteArray),image.size≤B→(∀y∈K,y.off+y.s.size≤B)→(lays image b K).size≤B
 | [],image,h,_=>h
 | y :: K,image,h,hy=>by
  unfold lays
  rw[List.foldl_cons]
  refine lays_size B b K _ ?_ (fun z hz=>hy z (List.mem_cons_of_mem _ hz))
  split
  ·have:=laid_size image y.off y.s
   have:=hy y (List.mem_cons_self ..)
   omega
  ·exact h
theorem keptAt_mem {keep:List Bool} {lack i:Nat} {L:List WaitS} {y:WaitS} (h:keptAt keep lack L i=some y):∃x∈L,y.blk=x.blk∧y.off=x.off∧y.s.size≤x.s.size:=by
 unfold keptAt at h
 cases hx:L[i]? with
 | none=>rw[hx]at h;cases h
 | some x =>
  rw[hx]at h
  simp only at h
  split at h
  ·cases h
   refine⟨x,List.mem_of_getElem? hx,rfl,rfl,?_⟩
   simp only
   split
   ·exact Nat.le_refl _
   ·simp [ByteArray.size_extract]
  ·cases h
theorem keptTo_mem {keep:List Bool} {lack k:Nat} {L:List WaitS} {y:WaitS} (h:y∈keptTo keep lack L k):∃x∈L,y.blk=x.blk∧y.off=x.off∧y.s.size≤x.s.size:=by
 unfold keptTo at h
 obtain⟨i,_,hi⟩:=List.mem_filterMap.1 h
 exact keptAt_mem hi
theorem DiskIn.row (h:DiskIn w p mb wv D) {k:Nat} (hk:k<D.waits.length):∃g cap,wv=.slice (some ⟨g,0,none⟩) D.waits.length cap∧D.waits.length≤cap∧g<w.heap.size ∧
  w.cell? ⟨g,k * 3,none⟩=some (ptrTo D.waits[k].blk)∧w.cell? ⟨g,k * 3+1,none⟩=some (.int .i64 D.waits[k].off)∧w.cell? ⟨g,k * 3+2,none⟩=some (.string D.waits[k].s):=by
 rcases h.waits.2 with ⟨_,h0⟩|⟨g,cap,cur,rfl,_,h1,h2,h3,h4,h5⟩
 ·omega
 ·exact⟨g,cap,rfl,h2,heap_lt h1,RowIs.cells ⟨cur,h1,h2,h3,h4,h5⟩ k hk⟩
end
section
variable {w w' w1:World} {p mb:Nat} {wv wv':Value} {D E:DiskS} {F:Nat→Prop} {left:List Nat}
theorem own_any (a:Option Addr) (n c m d:Nat):(Value.slice a n c).ownBlock=(Value.slice a m d).ownBlock:=by cases a<;>rfl
def settleF (left:List Nat) (f:FileS):FileS:=if f.blk∈left then f else { f with now:=f.image }
def DiskS.settled (E:DiskS) (left:List Nat):DiskS:={ E with files:=E.files.map (settleF left) }
theorem settleF_same (left:List Nat) (f:FileS):(settleF left f).name=f.name∧(settleF left f).blk=f.blk∧(settleF left f).image=f.image:=by
 unfold settleF;split<;>exact⟨rfl,rfl,rfl⟩
theorem settled_all:E.settled (E.files.map (·.blk))=E:=by
 unfold DiskS.settled
 have:E.files.map (settleF (E.files.map (·.blk)))=E.files:=by
  conv=>rhs;rw[←List.map_id E.files]
  apply List.map_congr_left
  intro f hf
  unfold settleF;rw[if_pos (List.mem_map.2 ⟨f,hf,rfl⟩)];rfl
 rw[this]
theorem settled_blk (left:List Nat):(E.settled left).files.map (·.blk)=E.files.map (·.blk):=by
 unfold DiskS.settled;rw[List.map_map];apply List.map_congr_left;intro f hf
 exact(settleF_same left f).2.1
theorem foot_settled (left:List Nat):foot p mb wv (E.settled left)=foot p mb wv E:=by unfold foot;rw[settled_blk]
def lastF (f:FileS):FileS:={ f with now:=f.image }
theorem DiskIn.settle (h:DiskIn w p mb wv (E.settled left)) (hb:(E.files.map (·.blk)).Nodup) (hn:(E.files.map (·.name)).Nodup) {f:FileS} (hf:f∈E.files) (left':List Nat)
  (hl:∀b,b∈left'↔b∈left∧b≠f.blk) (hin:f.blk∈left) :
  (E.settled left).find f.name=some f∧DiskIn (w.setCell ⟨f.blk,1,none⟩ (.string f.image)) p mb wv (E.settled left'):=by
 have hm:f∈(E.settled left).files:=by
  refine List.mem_map.2 ⟨f,hf,?_⟩
  unfold settleF;rw[if_pos hin]
 have hfind:=h.find_mem hm
 have he:E.settled left'=(E.settled left).turn f.name lastF:=by
  unfold DiskS.settled DiskS.turn
  simp only[List.map_map]
  congr 1
  apply List.map_congr_left
  intro y hy
  simp only[Function.comp]
  obtain⟨h1,h2,h3⟩:=settleF_same left y
  by_cases hyf:y.name=f.name
  ·have:y=f:=nodup_inj hn hy hf hyf
   subst this
   rw[if_pos h1]
   unfold settleF lastF
   rw[if_pos hin,if_neg (fun h=>((hl _).1 h).2 rfl)]
  ·have hyb:y.blk≠f.blk:=fun e=>hyf (by rw[nodup_inj hb hy hf e])
   rw[if_neg (by rw[h1];exact hyf)]
   unfold settleF
   by_cases hyl:y.blk∈left
   ·rw[if_pos hyl,if_pos ((hl _).2 ⟨hyl,hyb⟩)]
   ·rw[if_neg hyl,if_neg (fun h=>hyl ((hl _).1 h).1)]
 refine⟨hfind,?_⟩
 rw[he]
 exact h.fileTo hfind ((Keeps.refl (· = f.blk) w).setCell (p:=⟨f.blk,1,none⟩) (.inl rfl) _) (fun _=>⟨rfl,rfl⟩) (heap_set (h.files f hm) 1 _)
theorem clear_waits {a:Option Addr} {n cap:Nat} (h:DiskIn w p mb (.slice a n cap) D) :
  ∃w',(∀ty,(Builtin.clear_ #[91] ty #[.slice a n cap]).run Tryz.prog w=.ok (.tuple #[]) w')∧w'.ownsRow 0 133 3 (.slice a 0 cap) 0 [] ∧
   Keeps (fun g=>(Value.slice a n cap).ownBlock=some g) w w':=by
 rcases h.waits.2 with ⟨e,h0⟩|⟨g,c,cur,e,r1,r2,r3,r4,r5,r6⟩
 ·cases e
  exact⟨w,fun ty=>by simp [Builtin.clear_,run_underlying Tryz.underlying91,zeroWrite],⟨rfl,.inl ⟨rfl,rfl⟩⟩,.refl _ _⟩
 ·cases e
  by_cases h0:D.waits.length=0
  ·refine⟨w,fun ty=>?_,⟨rfl,.inr ⟨g,cap,cur,rfl,r1,r2,Nat.zero_le _,r4,r5,by simp⟩⟩,.refl _ _⟩
   rw[h0]
   simp [Builtin.clear_,run_underlying Tryz.underlying91,zeroWrite]
  ·have hzw:=zeroWrites D.waits.length
   have hcl:∀ty,(Builtin.clear_ #[91] ty #[.slice (some ⟨g,0,none⟩) D.waits.length cap]).run Tryz.prog w=.ok (.tuple #[]) (w.setCells g 0 (Builtin.zeroCells (Value.agg #[.pointer none,.int .i64 0,.string ⟨#[]⟩]).cells D.waits.length).toList):=fun ty =>
    run_clear_cells w _ 133 ty _ Tryz.underlying91 zeroWrite g 0 D.waits.length cap (D.waits.length * 3) (by omega) hzw.1 hzw.2
     (fun k hk=>by rw[cell_of r2,Array.getElem?_eq_getElem (by omega)];rfl) (fun k hk=>free_of r2 _)
   obtain⟨c',q1,q2,_⟩:=heap_setCells g _ (Builtin.zeroCells (Value.agg #[.pointer none,.int .i64 0,.string ⟨#[]⟩]).cells D.waits.length).toList 0 w cur r2
   exact⟨_,hcl,⟨rfl,.inr ⟨g,cap,c',rfl,r1,q1,Nat.zero_le _,r4,by rw[q2];exact r5,by simp⟩⟩,keeps_setCells _ g _ _ _ _ (.inl rfl) (.refl _ _)⟩
end
end Go.Proofs.YtiahjipoofeliaaGreatDoor.dk

namespace Go.Proofs.YtiahjipoofeliaaGreatDoor.dk
open Go.ChangeShapes Go.WideShapes Go.ChangeAt Go.RowKit
structure Form (D:DiskS):Prop where
 names:(D.files.map (·.name)).Nodup
 blks:(D.files.map (·.blk)).Nodup
 live:∀x∈D.waits,∃f∈D.files,f.blk=x.blk
structure Good (D:DiskS):Prop where
 left:D.left≤9223372036854775807
 cap:0≤D.cap∧D.cap≤16777216
 size:(D.size:Int)≤D.cap
 image:∀f∈D.files,f.image.size≤f.now.size
 waits:∀x∈D.waits,∀f∈D.files,f.blk=x.blk→x.off+x.s.size≤f.now.size
theorem DiskIn.form {w:World} {p mb:Nat} {wv:Value} {D:DiskS} (h:DiskIn w p mb wv D):Form D:=⟨h.names,h.blks,h.live⟩
theorem DiskAt.form {w:World} {p:Nat} {D:DiskS} {F:Nat→Prop} (h:DiskAt w p D F):Form D:=by obtain⟨mb,wv,h,_⟩:=h;exact h.form
variable {D:DiskS}
theorem total_mem {l:List FileS} {f:FileS} (h:f∈l):f.now.size≤total l:=by
 obtain⟨l1,l2,rfl⟩:=List.append_of_mem h
 rw[total_split];omega
theorem total_map_le {l:List FileS} {g:FileS→FileS} (h:∀f∈l,(g f).now.size≤f.now.size):total (l.map g)≤total l:=by
 induction l with
 | nil=>exact Nat.le_refl _
 | cons f l ih =>
  have h1:=h f (List.mem_cons_self ..)
  have h2:=ih (fun x hx=>h x (List.mem_cons_of_mem _ hx))
  unfold total at h2 ⊢
  simp only[List.map_cons,List.foldr_cons]
  omega
theorem total_map_eq {l:List FileS} {g:FileS→FileS} (h:∀f∈l,(g f).now.size=f.now.size):total (l.map g)=total l:=by
 induction l with
 | nil=>rfl
 | cons f l ih =>
  have h1:=h f (List.mem_cons_self ..)
  have h2:=ih (fun x hx=>h x (List.mem_cons_of_mem _ hx))
  unfold total at h2 ⊢
  simp only[List.map_cons,List.foldr_cons]
  omega
theorem total_filter_le (l:List FileS) (q:FileS→Bool):total (l.filter q)≤total l:=by
 induction l with
 | nil=>exact Nat.le_refl _
 | cons f l ih =>
  unfold total at ih ⊢
  rw[List.filter_cons]
  split<;>simp only[List.map_cons,List.foldr_cons]<;>omega
theorem total_append (l1 l2:List FileS):total (l1++l2)=total l1+total l2:=by
 unfold total
 induction l1 with
 | nil=>simp
 | cons g l ih=>simp only[List.cons_append,List.map_cons,List.foldr_cons]at ih ⊢;omega
theorem Good.file (h:Good D) {f:FileS} (hf:f∈D.files):f.now.size≤16777216∧f.image.size≤16777216:=by
 have h1:=total_mem hf
 have h2:=h.size
 have h3:=h.cap.2
 have h4:=h.image f hf
 unfold DiskS.size at h2
 omega
theorem Good.wait (h:Good D) (hF:Form D) {x:WaitS} (hx:x∈D.waits):x.off+x.s.size≤16777216:=by
 obtain⟨f,hf,he⟩:=hF.live x hx
 have:=h.waits x hx f hf he
 have:=(h.file hf).1
 omega
theorem Good.sizeN (h:Good D):D.size≤16777216:=by have:=h.size;have:=h.cap.2;omega
theorem turn_split (hF:Form D) {n:ByteArray} {f:FileS} (hf:D.find n=some f) (g:FileS→FileS) :
  ∃L1 L2,D.files=L1++f :: L2∧(D.turn n g).files=L1++g f :: L2∧(∀x∈L1++L2,x.name≠n∧x.blk≠f.blk):=by
 obtain⟨hm,hn⟩:=find_some hf
 obtain⟨L1,L2,hL⟩:=List.append_of_mem hm
 have h1:=hF.names
 have h2:=hF.blks
 rw[hL,List.map_append,List.map_cons,List.nodup_append,List.nodup_cons]at h1 h2
 have hne:∀x∈L1++L2,x.name≠n∧x.blk≠f.blk:=by
  intro x hx
  rcases List.mem_append.1 hx with hx|hx
  ·exact⟨fun e=>h1.2.2 x.name (List.mem_map.2 ⟨x,hx,rfl⟩) f.name (List.mem_cons_self ..) (by rw[e,hn]),fun e=>h2.2.2 x.blk (List.mem_map.2 ⟨x,hx,rfl⟩) f.blk (List.mem_cons_self ..) e⟩
  ·exact⟨fun e=>h1.2.1.1 (by rw[hn,←e];exact List.mem_map.2 ⟨x,hx,rfl⟩),fun e=>h2.2.1.1 (by rw[←e];exact List.mem_map.2 ⟨x,hx,rfl⟩)⟩
 refine⟨L1,L2,hL,?_,hne⟩
 unfold DiskS.turn
 simp only[hL,List.map_append,List.map_cons,if_pos hn]
 have e1:∀L:List FileS,(∀x∈L,x.name≠n)→L.map (fun x=>if x.name=n then g x else x)=L:=by
  intro L h
  conv=>rhs;rw[←List.map_id L]
  exact List.map_congr_left fun x hx=>if_neg (h x hx)
 rw[e1 L1 (fun x hx=>(hne x (List.mem_append_left _ hx)).1),e1 L2 (fun x hx=>(hne x (List.mem_append_right _ hx)).1)]
theorem turn_mem (hF:Form D) {n:ByteArray} {f:FileS} (hf:D.find n=some f) {g:FileS→FileS} {y:FileS} (hy:y∈(D.turn n g).files):y=g f∨(y∈D.files∧y.name≠n∧y.blk≠f.blk):=by
 obtain⟨L1,L2,h1,h2,h3⟩:=turn_split hF hf g
 rw[h2]at hy
 rw[h1]
 rcases List.mem_append.1 hy with hy|hy
 ·exact .inr ⟨List.mem_append_left _ hy,h3 y (List.mem_append_left _ hy)⟩
 ·rcases List.mem_cons.1 hy with rfl|hy
  ·exact .inl rfl
  ·exact .inr ⟨List.mem_append_right _ (List.mem_cons_of_mem _ hy),h3 y (List.mem_append_right _ hy)⟩
theorem Good.burn (h:Good D):Good D.burn:=by
 obtain⟨e1,e2,e3⟩:=burn_files (D:=D)
 refine⟨?_,by rw[e3];exact h.cap,by unfold DiskS.size;rw[e1,e3];exact h.size,by rw[e1];exact h.image,by rw[e1,e2];exact h.waits⟩
 have:=h.left
 unfold DiskS.burn;split
 ·show (-1:Int)≤_;omega
 ·split
  ·show D.left-1≤_;omega
  ·exact this
theorem Form.burn (h:Form D):Form D.burn:=by
 obtain⟨e1,e2,e3⟩:=burn_files (D:=D)
 exact⟨by rw[e1];exact h.names,by rw[e1];exact h.blks,by rw[e1,e2];exact h.live⟩
theorem Good.doing (h:Good D) {f:DiskS→DiskS} (hf:Good D.burn→Good (f D.burn)):Good (D.doing f).2:=by
 unfold DiskS.doing;split
 ·exact h.burn
 ·exact hf h.burn
theorem Good.create (h:Good D) (hF:Form D) (n:ByteArray) (b:Nat) (hb:∀f∈D.files,f.blk≠b):Good (D.create n b).2:=by
 unfold DiskS.create
 split
 ·exact h
 ·split
  ·exact h
  ·refine h.doing fun hb'=>⟨hb'.left,hb'.cap,?_,?_,?_⟩
   ·have:=hb'.size
    unfold DiskS.size at this ⊢
    rw[total_append,show total [(⟨n,b,⟨#[]⟩,⟨#[]⟩⟩:FileS)]=0 from rfl]
    exact this
   ·intro f hf
    rcases List.mem_append.1 hf with hf|hf
    ·exact hb'.image f hf
    ·rw[List.mem_singleton]at hf;subst hf;exact Nat.le_refl _
   ·intro x hx f hf he
    rcases List.mem_append.1 hf with hf|hf
    ·exact hb'.waits x hx f hf he
    ·rw[List.mem_singleton]at hf;subst hf
     obtain⟨g,hg,hge⟩:=hF.burn.live x hx
     rw[burn_files.1]at hg
     exact absurd (hge.trans he.symm) (hb g hg)
theorem laid_le (s:ByteArray) (k:Nat) (o:ByteArray) (ho:o.size≠0):s.size≤(laid s k o).size∧k+o.size≤(laid s k o).size:=by
 unfold laid laidL pad
 rw[if_neg (by intro h;apply ho;simpa using congrArg List.length h)]
 show s.size≤(_:List UInt8).toArray.size∧k+o.size≤(_:List UInt8).toArray.size
 simp;omega
theorem Good.write (h:Good D) (hF:Form D) (n:ByteArray) (k:Int) (s:ByteArray):Good (D.write n k s).2:=by
 unfold DiskS.write
 split
 ·exact h
 ·split
  ·exact h
  ·rename_i f hf
   split
   ·exact h
   ·rename_i hr
    split
    ·exact h
    ·rename_i hroom
     refine h.doing fun hb=>?_
     split
     ·exact hb
     ·rename_i hs
      have hfb:D.burn.find n=some f:=by rw[burn_find];exact hf
      obtain⟨L1,L2,e1,e2,e3⟩:=turn_split hF.burn hfb (fun f=>{ f with now:=laid f.now k.toNat s })
      have hsz:=hb.size
      have hle:=laid_size f.now k.toNat s
      have hge:=laid_le f.now k.toNat s hs
      have hmf:=(find_some hfb).1
      have hsize:D.burn.size=D.size:=by unfold DiskS.size;rw[burn_files.1]
      have hcap:D.burn.cap=D.cap:=burn_files.2.2
      refine⟨hb.left,hb.cap,?_,?_,?_⟩
      ·unfold DiskS.size at hsz hsize hroom ⊢
       show (total (D.burn.turn n _).files:Int)≤D.burn.cap
       rw[e2,total_split]
       rw[e1,total_split]at hsz
       rw[←burn_files (D:=D) |>.1,e1,total_split]at hroom
       simp only
       omega
      ·intro y hy
       rcases turn_mem hF.burn hfb hy with rfl|⟨hy,_⟩
       ·have:=hb.image f hmf
        simp only
        omega
       ·exact hb.image y hy
      ·intro x hx y hy he
       rcases List.mem_append.1 hx with hx|hx
       ·rcases turn_mem hF.burn hfb hy with rfl|⟨hy,_⟩
        ·have:=hb.waits x hx f hmf he
         simp only
         omega
        ·exact hb.waits x hx y hy he
       ·rw[List.mem_singleton]at hx
        subst hx
        rcases turn_mem hF.burn hfb hy with rfl|⟨hy,_,hne⟩
        ·exact hge.2
        ·exact absurd he hne
theorem Form.last (hF:Form D) (n:ByteArray):Form (D.last n):=by
 unfold DiskS.last
 cases hf:D.find n with
 | none=>exact hF
 | some f =>
  have hs:=turn_same (D:=D) (n:=n) (g:=fun f=>{ f with image:=f.now }) (fun _=>⟨rfl,rfl⟩)
  have hn:(D.turn n (fun f=>{ f with image:=f.now })).files.map (·.name)=D.files.map (·.name):=by
   have:=congrArg (List.map fun x:Value×Value=>match x.1 with|.string s=>s|_=>ByteArray.empty) hs.1
   simpa [List.map_map,Function.comp_def,encF] using this
  refine⟨by show ((D.turn n _).files.map (·.name)).Nodup;rw[hn];exact hF.names,by show ((D.turn n _).files.map (·.blk)).Nodup;rw[hs.2];exact hF.blks,?_⟩
  intro x hx
  have hx':=(List.mem_filter.1 hx).1
  obtain⟨y,hy,he⟩:=hF.live x hx'
  have:y.blk∈(D.turn n (fun f=>{ f with image:=f.now })).files.map (·.blk):=by rw[hs.2];exact List.mem_map.2 ⟨y,hy,rfl⟩
  obtain⟨z,hz,hze⟩:=List.mem_map.1 this
  exact⟨z,hz,hze.trans he⟩
theorem Good.last (h:Good D) (hF:Form D) (n:ByteArray):Good (D.last n)∧(D.last n).size=D.size:=by
 unfold DiskS.last
 cases hf:D.find n with
 | none=>exact⟨h,rfl⟩
 | some f =>
  have hsz:(D.turn n (fun f=>{ f with image:=f.now })).size=D.size:=total_map_eq (fun x _=>by split<;>rfl)
  refine⟨⟨h.left,h.cap,by show ((D.turn n _).size:Int)≤_;rw[hsz];exact h.size,?_,?_⟩,hsz⟩
  ·intro y hy
   rcases turn_mem hF hf hy with rfl|⟨hy,_⟩
   ·exact Nat.le_refl _
   ·exact h.image y hy
  ·intro x hx y hy he
   have hx':=(List.mem_filter.1 hx).1
   rcases turn_mem hF hf hy with rfl|⟨hy,_⟩
   ·exact h.waits x hx' f (find_some hf).1 he
   ·exact h.waits x hx' y hy he
theorem Good.lasts (l:List ByteArray):∀ {D:DiskS},Good D→Form D→Good (l.foldl DiskS.last D)∧(l.foldl DiskS.last D).size=D.size:=by
 induction l with
 | nil=>exact fun h _=>⟨h,rfl⟩
 | cons n l ih =>
  intro D h hF
  obtain⟨h1,h2⟩:=h.last hF n
  obtain⟨h3,h4⟩:=ih h1 (hF.last n)
  exact⟨h3,h4.trans h2⟩
theorem Good.sync (h:Good D) (hF:Form D) (l:List ByteArray):Good (D.sync l).2:=by
 unfold DiskS.sync;split
 ·exact h
 ·exact h.doing fun hb=>(Good.lasts l hb hF.burn).1
theorem Good.cut (h:Good D) (hF:Form D) (n:ByteArray) (k:Int):Good (D.cut n k).2:=by
 unfold DiskS.cut
 split
 ·exact h
 ·split
  ·exact h
  ·rename_i f hf
   split
   ·exact h
   ·rename_i hr
    refine h.doing fun hb=>?_
    have hfb:D.burn.find n=some f:=by rw[burn_find];exact hf
    have hft:(D.burn.turn n (fun f=>{ f with now:=f.now.extract 0 k.toNat })).find n=some { f with now:=f.now.extract 0 k.toNat }:=by
     have hm:=(find_some hfb)
     obtain⟨L1,L2,e1,e2,e3⟩:=turn_split hF.burn hfb (fun f=>{ f with now:=f.now.extract 0 k.toNat })
     unfold DiskS.find
     rw[e2,List.find?_append,List.find?_cons]
     have:L1.find? (fun f=>decide (f.name=n))=none:=by
      rw[List.find?_eq_none];intro x hx;simpa using (e3 x (List.mem_append_left _ hx)).1
     simp [this,hm.2]
    unfold DiskS.last
    rw[hft]
    simp only
    have hsz:∀x:FileS,(x.now.extract 0 k.toNat).size≤x.now.size:=fun x=>by rw[ByteArray.size_extract];omega
    refine⟨hb.left,hb.cap,?_,?_,?_⟩
    ·have h1:((D.burn.turn n (fun f=>{ f with now:=f.now.extract 0 k.toNat })).turn n (fun f=>{ f with image:=f.now })).size≤D.burn.size:=by
      refine Nat.le_trans (total_map_le (fun x _=>by split<;>exact Nat.le_refl _)) ?_
      exact total_map_le (fun x _=>by split;exact hsz x;exact Nat.le_refl _)
     exact Int.le_trans (Int.ofNat_le.2 h1) hb.size
    ·intro y hy
     have hy':y∈(D.burn.turn n (fun f=>({ f with now:=f.now.extract 0 k.toNat,image:=f.now.extract 0 k.toNat }:FileS))).files:=by
      unfold DiskS.turn at hy ⊢
      simp only[DiskS.without,List.map_map]at hy
      obtain⟨z,hz,rfl⟩:=List.mem_map.1 hy
      refine List.mem_map.2 ⟨z,hz,?_⟩
      simp only[Function.comp]
      by_cases hzn:z.name=n
      ·simp [hzn]
      ·simp [hzn]
     rcases turn_mem hF.burn hfb hy' with rfl|⟨hy,_⟩
     ·exact Nat.le_refl _
     ·exact hb.image y hy
    ·intro x hx y hy he
     have hx':=List.mem_filter.1 hx
     have hy':y∈(D.burn.turn n (fun f=>({ f with now:=f.now.extract 0 k.toNat,image:=f.now.extract 0 k.toNat }:FileS))).files:=by
      unfold DiskS.turn at hy ⊢
      simp only[DiskS.without,List.map_map]at hy
      obtain⟨z,hz,rfl⟩:=List.mem_map.1 hy
      refine List.mem_map.2 ⟨z,hz,?_⟩
      simp only[Function.comp]
      by_cases hzn:z.name=n
      ·simp [hzn]
      ·simp [hzn]
     rcases turn_mem hF.burn hfb hy' with rfl|⟨hy,_⟩
     ·have:=hx'.2
      simp only[Bool.not_eq_true',decide_eq_false_iff_not]at this
      exact absurd he.symm this
     ·exact hb.waits x hx'.1 y hy he
theorem Form.drop (hF:Form D) (n:ByteArray):Form (D.drop n):=by
 unfold DiskS.drop
 cases hf:D.find n with
 | none=>exact hF
 | some f =>
  have hs:∀ {β:Type} (q:FileS→β),(D.files.map q).Nodup→((D.files.filter fun x=>!decide (x.name=n)).map q).Nodup:=fun q h=>h.sublist ((List.filter_sublist).map q)
  refine⟨hs _ hF.names,hs _ hF.blks,?_⟩
  intro x hx
  obtain⟨hx1,hx2⟩:=List.mem_filter.1 hx
  obtain⟨g,hg,he⟩:=hF.live x hx1
  refine⟨g,List.mem_filter.2 ⟨hg,?_⟩,he⟩
  simp only[Bool.not_eq_true',decide_eq_false_iff_not]at hx2 ⊢
  intro e
  obtain⟨h1,h2⟩:=find_some hf
  have:g=f:=nodup_inj hF.names hg h1 (by rw[e,h2])
  subst this
  exact hx2 he.symm
theorem Good.drop (h:Good D) (n:ByteArray):Good (D.drop n):=by
 unfold DiskS.drop
 cases hf:D.find n with
 | none=>exact h
 | some f =>
  refine⟨h.left,h.cap,?_,fun y hy=>h.image y (List.mem_filter.1 hy).1,fun x hx y hy he=>h.waits x (List.mem_filter.1 hx).1 y (List.mem_filter.1 hy).1 he⟩
  have h1:=h.size
  have h2:=total_filter_le D.files (fun x=>!decide (x.name=n))
  unfold DiskS.size at h1 ⊢
  show (total (D.files.filter _):Int)≤D.cap
  omega
theorem Good.drops (l:List ByteArray):∀ {D:DiskS},Good D→Good (l.foldl DiskS.drop D):=by
 induction l with
 | nil=>exact fun h=>h
 | cons n l ih=>exact fun h=>ih (h.drop n)
theorem Good.delete (h:Good D) (l:List ByteArray):Good (D.delete l).2:=by
 unfold DiskS.delete;split
 ·exact h
 ·exact h.doing fun hb=>Good.drops l hb
theorem lays_size2 (B:Nat) (b:Nat):∀(K:List WaitS) (image:ByteArray),image.size≤B→(∀y∈K,y.blk=b→y.off+y.s.size≤B)→(lays image b K).size≤B
 | [],image,h,_=>h
 | y :: K,image,h,hy=>by
  unfold lays
  rw[List.foldl_cons]
  refine lays_size2 B b K _ ?_ (fun z hz=>hy z (List.mem_cons_of_mem _ hz))
  split
  ·rename_i he
   have:=laid_size image y.off y.s
   have:=hy y (List.mem_cons_self ..) he
   omega
  ·exact h
theorem crashed_file (h:Good D) {keep:List Bool} {lack k:Nat} {f:FileS} (hf:f∈D.files):(lays f.image f.blk (keptTo keep lack D.waits k)).size≤f.now.size :=
 lays_size2 _ _ _ _ (h.image f hf) fun y hy he=>by
  obtain⟨x,hx,e1,e2,e3⟩:=keptTo_mem hy
  have:=h.waits x hx f hf (by rw[←e1,he])
  omega
theorem Good.crashed (h:Good D) (keep:List Bool) (lack:Int):Good (D.crashed keep lack)∧(D.crashed keep lack).size≤D.size:=by
 have hsz:(D.crashed keep lack).size≤D.size:=by
  unfold DiskS.crashed DiskS.imaged DiskS.size
  simp only[List.map_map]
  exact total_map_le (fun f hf=>crashed_file h hf)
 refine⟨⟨by show (-1:Int)≤_;omega,h.cap,?_,?_,fun x hx=>by cases hx⟩,hsz⟩
 ·have:=h.size
  show ((D.crashed keep lack).size:Int)≤D.cap
  omega
 ·intro y hy
  unfold DiskS.crashed at hy
  obtain⟨z,hz,rfl⟩:=List.mem_map.1 hy
  exact Nat.le_refl _
theorem new_good (n:Int):Good (new n):=⟨by show (-1:Int)≤_;omega,by show 0≤min (max n 0) 16777216∧_;simp only[new];omega,by show ((0:Nat):Int)≤min (max n 0) 16777216;omega,fun f hf=>by(cases hf),fun x hx=>by(cases hx)⟩
end Go.Proofs.YtiahjipoofeliaaGreatDoor.dk
