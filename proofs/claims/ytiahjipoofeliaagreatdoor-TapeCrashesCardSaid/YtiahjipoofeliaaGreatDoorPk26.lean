/- Lemmas for this claim. -/
import Derived.Lib.AtoiErrMem
import Derived.Test.YtiahjipoofeliaaGreatDoorPk25
set_option maxRecDepth 100000
namespace Go.Proofs.YtiahjipoofeliaaGreatDoor.sg
open Go.ChangeShapes Go.WideShapes Go.ChangeAt Go.RowKit Go.Sort Go.Shelf dk
abbrev digitsB:ByteArray:=⟨#[48,49,50,51,52,53,54,55,56,57]⟩
theorem digit_in (b:UInt8):digitsB.data.toList.contains b=true↔48≤b.toNat∧b.toNat≤57:=by
 constructor
 ·intro h
  have h1:b∈([48,49,50,51,52,53,54,55,56,57]:List UInt8):=by simpa using h
  have h2:∀x∈([48,49,50,51,52,53,54,55,56,57]:List UInt8),48≤x.toNat∧x.toNat≤57:=by decide
  exact h2 b h1
 ·rintro⟨h1,h2⟩
  have hc:b.toNat=48∨b.toNat=49∨b.toNat=50∨b.toNat=51∨b.toNat=52∨b.toNat=53∨b.toNat=54∨b.toNat=55∨b.toNat=56∨b.toNat=57:=by omega
  have hb:b=UInt8.ofNat b.toNat:=by simp
  rw[hb]
  rcases hc with h|h|h|h|h|h|h|h|h|h<;>rw[h]<;>decide
theorem drop_none (p:UInt8→Bool) (l:List UInt8):l.dropWhile p=[]↔∀b∈l,p b=true:=by
 induction l with
 | nil=>simp
 | cons x l ih =>
  rw[List.dropWhile_cons]
  by_cases hx:p x=true
  ·rw[if_pos hx,ih];simp [hx]
  ·rw[if_neg hx];simp [hx]
theorem drop_all (p:UInt8→Bool) (l:List UInt8) (h:∀b∈l.dropWhile p,p b=true):∀b∈l,p b=true:=by
 induction l with
 | nil=>intro b hb;cases hb
 | cons x l ih =>
  rw[List.dropWhile_cons]at h
  by_cases hx:p x=true
  ·rw[if_pos hx]at h
   intro b hb
   rcases List.mem_cons.1 hb with rfl|hb
   ·exact hx
   ·exact ih h b hb
  ·rw[if_neg hx]at h
   exact absurd (h x (List.mem_cons_self ..)) hx
theorem trim_none (l cs:List UInt8):Lib.trimS l cs=[]↔∀b∈l,cs.contains b=true:=by
 unfold Lib.trimS Lib.trimLeftS Lib.trimRightS
 rw[drop_none]
 constructor
 ·intro h b hb
  exact drop_all (cs.contains ·) l.reverse (fun x hx=>h x (List.mem_reverse.2 hx)) b (List.mem_reverse.2 hb)
 ·intro h b hb
  exact h b (List.mem_reverse.1 ((List.dropWhile_sublist _).subset (List.mem_reverse.1 hb)))
def placeI (head s:ByteArray):Int×Bool:=match placeOf head s with|some n=>((n:Int),true)|none=>(0,false)
theorem atoi_dL {n:Nat} (h:n<100000000):Lib.atoi (dL 8 n)=some (n:Int):=by
 have hd:=dL_digits (k:=8) h
 have hf:=decFrom_dL 8 n 0 h
 have hl:=dL_length 8 n
 cases hc:dL 8 n with
 | nil=>rw[hc]at hl;cases hl
 | cons b r =>
  rw[hc]at hd hf
  have hb:=hd b (List.mem_cons_self ..)
  have h1:(b==45)=false:=by rw[beq_eq_false_iff_ne];rintro rfl;exact absurd hb.1 (by decide)
  have h2:(b==43)=false:=by rw[beq_eq_false_iff_ne];rintro rfl;exact absurd hb.1 (by decide)
  unfold Lib.atoi Lib.decNat
  simp only[h1,h2,List.isEmpty_cons,Bool.false_eq_true,if_false]
  rw[hf];simp
set_option maxHeartbeats 4000000 in
theorem Place_any (head s:ByteArray) (w:World) (hs:s.size≤4294967296) :
  Calls Tryz.prog 150 #[.string head,.string s] w fun e w'=>e=.returned (.tuple #[.int .i64 (placeI head s).1,.bool (placeI head s).2])∧Calm w w':=by
 have hp:=Tryz.strings_CutPrefix s head w
 obtain⟨z,hz⟩:∃z:ByteArray,(⟨(Lib.trimPrefix s.data.toList head.data.toList).toArray⟩:ByteArray)=z:=⟨_,rfl⟩
 have hzl:z.data.toList=Lib.trimPrefix s.data.toList head.data.toList:=by rw[←hz]
 rw[hz]at hp
 by_cases h1:Lib.hasPrefix s.data.toList head.data.toList=true
 ·rw[h1]at hp
  have hz1:z.data.toList=s.data.toList.drop head.size:=by
   rw[hzl];unfold Lib.trimPrefix;rw[if_pos h1];rfl
  have hpl:head.size≤s.size:=by
   have h5:head.data.toList <+: s.data.toList:=by unfold Lib.hasPrefix at h1;exact List.isPrefixOf_iff_prefix.1 h1
   have:=h5.length_le
   simpa using this
  have hzs:z.size=s.size-head.size:=by
   have:=congrArg List.length hz1
   rw[List.length_drop,size_toList,size_toList]at this
   exact this
  by_cases h2:z.size=8
  ·have ht:=Any.strings_Trim_laid Tryz.lays160 (by kernel_rfl) z digitsB w (by omega) (by decide) (ascii_of_all (by decide))
   change Calls Tryz.prog 186 _ _ _ at ht
   obtain⟨t,ht0⟩:∃t:ByteArray,(⟨(Lib.trimS z.data.toList digitsB.data.toList).toArray⟩:ByteArray)=t:=⟨_,rfl⟩
   have htl:t.data.toList=Lib.trimS z.data.toList digitsB.data.toList:=by rw[←ht0]
   rw[ht0]at ht
   have Hp:=box hp
   by_cases h3:∀b∈z.data.toList,48≤b.toNat∧b.toNat≤57
   ·have ht1:t=⟨#[]⟩:=ba_ext (by rw[htl];exact(trim_none _ _).2 fun b hb=>(digit_in b).2 (h3 b hb))
    subst ht1
    obtain⟨n,hn,e⟩:=dL_onto _ h3
    rw[size_toList,h2]at hn e
    have hpl:placeI head s=((n:Int),true):=by
     unfold placeI placeOf
     rw[if_pos ⟨h1,by omega,by rw[←hz1];exact h3⟩,←hz1,e,decFrom_dL 8 n 0 hn];simp
    have ha:=box (fun W=>Tryz.strconv_Atoi z n (by omega) (by rw[e];exact atoi_dL hn) W)
    rw[hpl]
    have Ht:=box ht
    clear hp ht ht0 htl h3 hz hzl hz1 h1 hpl e hn
    go_enter Tryz.func150,Tryz.ntmps150
    go_wp2_with fail
    refine Hp.out.mono ?_
    rintro e w1 ⟨rfl,rfl⟩
    go_wp2_with fail
    refine Ht.out.mono ?_
    rintro e w2 ⟨rfl,hb2⟩
    have hc2:=box hb2
    clear hb2
    go_wp2_with fail
    refine(ha.out _).mono ?_
    rintro e w3 ⟨rfl,x,rfl⟩
    have hc3:=box (Calm.trans hc2.out (Lib.bytesWorld_below w2 5 x))
    obtain⟨wr,hwr⟩:∃wr,Lib.bytesWorld w2 5 x=wr:=⟨_,rfl⟩
    rw[hwr]at hc3 ⊢
    clear hwr
    go_wp2_with fail
    go_ret2
    exact⟨rfl,hc3.out⟩
   ·have ht1:¬t=⟨#[]⟩:=by
     intro ht1
     refine h3 fun b hb=>(digit_in b).1 ((trim_none _ _).1 ?_ b hb)
     rw[←htl,ht1]
    have hte:t.toList.isEmpty=false:=by rw[Lib.toList_data,List.isEmpty_eq_false_iff];intro h;exact ht1 (ba_ext h)
    have hpl:placeI head s=(0,false):=by
     unfold placeI placeOf
     rw[if_neg (fun h=>h3 (by rw[hz1];exact h.2.2))]
    rw[hpl]
    have Ht:=box ht
    clear hp ht ht0 htl h3 hz hzl hz1 h1 hpl ht1
    go_enter Tryz.func150,Tryz.ntmps150
    go_wp2_with fail
    refine Hp.out.mono ?_
    rintro e w1 ⟨rfl,rfl⟩
    go_wp2_with fail
    refine Ht.out.mono ?_
    rintro e w2 ⟨rfl,hb2⟩
    have hc2:=box hb2
    clear hb2
    go_wp2_with fail
    go_ret2
    exact⟨rfl,hc2.out⟩
  ·have hpl:placeI head s=(0,false):=by
    unfold placeI placeOf
    rw[if_neg (fun h=>h2 (by have:=h.2.1;omega))]
   have h2b:((z.size:Int)==8)=false:=beq_eq_false_iff_ne.2 (by omega)
   rw[hpl]
   have Hp:=box hp
   clear hp hz hzl hz1 h1 hpl
   go_enter Tryz.func150,Tryz.ntmps150
   go_wp2_with fail
   refine Hp.out.mono ?_
   rintro e w1 ⟨rfl,rfl⟩
   go_wp2_with fail
   go_ret2
   exact⟨rfl,Calm.refl _⟩
 ·have h1:Lib.hasPrefix s.data.toList head.data.toList=false:=by simpa using h1
  rw[h1]at hp
  have hpl:placeI head s=(0,false):=by
   unfold placeI placeOf
   rw[if_neg (fun h=>by rw[h1]at h;cases h.1)]
  rw[hpl]
  have Hp:=box hp
  clear hp hz hzl h1 hpl
  go_enter Tryz.func150,Tryz.ntmps150
  go_wp2_with fail
  refine Hp.out.mono ?_
  rintro e w1 ⟨rfl,rfl⟩
  go_wp2_with fail
  go_ret2
  exact⟨rfl,Calm.refl _⟩
end Go.Proofs.YtiahjipoofeliaaGreatDoor.sg

namespace Go.Proofs.YtiahjipoofeliaaGreatDoor.sg
open Go.ChangeShapes Go.WideShapes Go.ChangeAt Go.RowKit
open dk
theorem fold_snoc {α β:Type} (f:β→α→β) (b:β) (l:List α) (k:Nat) (hk:k<l.length):(l.take (k+1)).foldl f b=f ((l.take k).foldl f b) l[k]:=by
 rw[List.take_succ_eq_append_getElem hk,List.foldl_append];rfl
theorem names_mem {D:DiskS} {head s:ByteArray} (h:s∈D.names head):∃f∈D.files,f.name=s:=by
 unfold DiskS.names DiskS.namesL at h
 obtain⟨l,hl,rfl⟩:=List.mem_map.1 h
 have h1:=(List.mem_filter.1 hl).1
 rw[List.mem_mergeSort]at h1
 obtain⟨f,hf,rfl⟩:=List.mem_map.1 h1
 exact⟨f,hf,rfl⟩
theorem names_few (D:DiskS) (head:ByteArray):(D.names head).length≤D.files.length:=by
 unfold DiskS.names DiskS.namesL
 rw[List.length_map]
 refine Nat.le_trans (List.length_filter_le _ _) ?_
 rw[List.length_mergeSort,List.length_map];exact Nat.le_refl _
theorem len_le {D:DiskS} (h:dk.Good D) (s:ByteArray):D.len s≤16777216:=by
 unfold DiskS.len
 split
 ·rename_i f hf;exact(h.file (find_some hf).1).1
 ·omega
section
variable {W w w' w1:World} {r p n:Nat} {R R' R1:RowS} {v v' v1 nv:Value} {D D':DiskS} {F F':Nat→Prop} {head:ByteArray} {size:Nat} {x:FoundS}
theorem others_len (l:List ByteArray):∀x:FoundS,(l.foldl (findOne D head size) x).others.length≤x.others.length+l.length:=by
 induction l with
 | nil=>exact fun x=>Nat.le_refl _
 | cons s l ih =>
  intro x
  have h1:=ih (findOne D head size x s)
  have h2:=find_others (size:=size) D head x s
  rw[List.foldl_cons,List.length_cons]
  omega
theorem FdS.place {w6:World} (h:FdS W w1 r p n D head size F x v nv w) (hrw:r<w1.heap.size) (k long:Nat) (b:Bool) (hk:Keeps (fun g=>v.ownBlock=some g) w w6)
  (hrow:w6.ownsRow 0 3 1 v' ((x.row0 head size).places++[k]).length (intN ((x.row0 head size).places++[k]))) (hg:∀g,v'.ownBlock=some g→v.ownBlock=some g∨w.heap.size≤g)
  (hx:x.cnt=0∨k=x.start+x.cnt * size) (ok:RowOk (FoundS.row0 { x with start:=if x.cnt=0 then k else x.start,cnt:=x.cnt+1,fin:=k+long,whole:=b } head size)) :
  w6.heap[r]? = some (.cells (rowCells p (x.row0 head size) v) 128 (0,0)) ∧
  FdS W w1 r p n D head size F { x with start:=if x.cnt=0 then k else x.start,cnt:=x.cnt+1,fin:=k+long,whole:=b } v' nv ((w6.setCell ⟨r,3,none⟩ v').setCell ⟨r,4,none⟩ (.int .i64 ((k+long:Nat):Int))):=by
 have hne:v'.ownBlock≠some r:=fun e=>by
  rcases hg r e with h1|h1
  ·exact row_ne h.seg.row h1
  ·have:=heap_lt h.seg.row.at_;omega
 have h6:=(hk.block r (heap_lt h.seg.row.at_) (fun e=>row_ne h.seg.row e)).trans h.seg.row.at_
 have hkf:Keeps (rfoot r v) w ((w6.setCell ⟨r,3,none⟩ v').setCell ⟨r,4,none⟩ (.int .i64 ((k+long:Nat):Int))):=((hk.mono (fun b _ hb=>.inr hb)).setCell (p:=⟨r,3,none⟩) (.inl (.inl rfl)) _).setCell (p:=⟨r,4,none⟩) (.inl (.inl rfl)) _
 have hpl:(x.row0 head size).places++[k]=(FoundS.row0 { x with start:=if x.cnt=0 then k else x.start,cnt:=x.cnt+1,fin:=k+long,whole:=b } head size).places:=by
  show plc x.start size x.cnt++[k]=plc (if x.cnt=0 then k else x.start) size (x.cnt+1)
  rw[plc_snoc]
  by_cases h0:x.cnt=0
  ·rw[h0];simp [plc]
  ·rw[if_neg h0,hx.resolve_left h0]
 have hlen:((x.row0 head size).places++[k]).length=x.cnt+1:=by rw[List.length_append,RowS.length];rfl
 have hrf:((w6.setCell ⟨r,3,none⟩ v').setCell ⟨r,4,none⟩ (.int .i64 ((k+long:Nat):Int))).ownsRow 0 3 1 v' (x.cnt+1) (intN (FoundS.row0 { x with start:=if x.cnt=0 then k else x.start,cnt:=x.cnt+1,fin:=k+long,whole:=b } head size).places):=by
  rw[←hpl,←hlen]
  refine row_same (row_same hrow (fun g e=>heap_set_other (fun e2=>hne (by rw[←e2];exact e)) 3 v')) (fun g e=>heap_set_other (fun e2=>hne (by rw[←e2];exact e)) 4 _)
 have ht:=h.seg.turned hkf (heap_set (heap_set h6 3 v') 4 _) hrf hg ok
 refine⟨h6,ht.1,⟨hkf.os.trans h.keep.os,hkf.tape.trans h.keep.tape,hkf.output.trans h.keep.output,Nat.le_trans h.keep.size hkf.size,fun i hi hn=>?_⟩,fun g e=>?_,row_same h.oth (fun g hg'=>hkf.block g (h.oth.lt g hg').2 ?_),h.nW⟩
 ·exact(hkf.block i (Nat.lt_of_lt_of_le hi h.keep.size) (fun e=>hn (e.elim .inl (fun e=>.inr (h.vW i e))))).trans (h.keep.block i hi hn)
 ·rcases hg g e with h1|h1
  ·exact h.vW g h1
  ·exact Nat.le_trans h.keep.size h1
 ·rintro(e|e)
  ·subst e
   have:=h.nW _ hg'
   omega
  ·exact rows_apart h.seg.row.row h.oth e hg'
def FoundDone (W:World) (r p n:Nat) (D:DiskS) (head:ByteArray) (size:Nat) (F:Nat→Prop) (w:World) (e:Ending) (w':World):Prop :=
 ∃v nv w1,e=.returned nv∧Calm w w1∧FdS W w1 r p n D head size F (foundD D head size) v nv w'
set_option maxHeartbeats 16000000 in
theorem found_any (w:World) (h:SegAt W w r p n D ⟨head,size,0,0,0,0⟩ F (.slice none 0 0)) (hfn:∀f∈D.files,f.name.size≤1000000) (hl:D.files.length≤1000000) :
  Calls Tryz.prog 97 #[ptrTo r] w (FoundDone W r p n D head size F w):=by
 have H:=box h
 have hFw:=box h.disk.foot_lt
 have hrw:=heap_lt h.row.at_
 have hz:16≤size∧size≤4096:=h.row.ok.size
 have hhd:head.size≤1000000:=h.row.ok.head
 have hlist:=box (fun (W':World) (hc:Calm w W')=>List_any head W' (h.disk.calm hc).lies (fun f hf=>by have:=hfn f hf;unfold maxLen;omega) hl)
 have hgood:=box h.disk.good
 have Hnm:=box (fun s (hs:s∈D.names head)=>(show s.size≤1000000 from by obtain⟨f,hf,e⟩:=names_mem hs;rw[←e];exact hfn f hf))
 have hnf:=names_few D head
 have hcells:=box (fun (W':World) (hc:Calm w W')=>(show W'.cell? ⟨r,0,none⟩=some (ptrTo p)∧W'.cell? ⟨r,1,none⟩=some (.string head) from ⟨(h.row.calm hc).cells.1,(h.row.calm hc).cells.2.1⟩))
 obtain⟨c0,c1,c2,c3,c4,c5⟩:=h.row.cells
 have hlt:=heap_lt h.row.at_
 clear h hfn
 go_enter Tryz.func97,Tryz.ntmps97
 go_upto_region 3 with fail
 clear c2 c3 c4 c5
 go_region_held3 (fun w'=>w'.cell? ⟨r,0,none⟩=some (ptrTo p)∧w'.cell? ⟨r,1,none⟩=some (.string head)) (first|go_keep|exact hcells.out _ (by exact cm)) ((go_at_call 36;refine(hlist.out _ (by exact cm)).mono ?_;rintro e w1 ⟨lv,rfl,hlv,hcl,hlnew⟩;obtain⟨la,lcap,rfl,hlel⟩:=hlv.uni))
 have HC1:=box (show Calm w w1 by exact cm)
 have hlold:∀b off,la=some ⟨b,off,none⟩→b≠r:=fun b off e e2=>by
  have:=hlnew ⟨b,off,none⟩ _ _ (by rw[e])
  have h2:w.heap.size≤b:=this
  omega
 have Hlold:=box hlold
 have Hlel:=box hlel
 have HF0:=box (show FdS W w1 r p n D head size F ⟨0,0,0,true,[]⟩ (.slice none 0 0) (.slice none 0 0) w1 from ⟨H.out.drew HC1.out,Keeps.refl _ _,fun g hg=>(by cases hg),World.ownsRow_nil _ _ _ _,fun g hg=>(by cases hg)⟩)
 obtain⟨N,hN⟩:∃N,D.names head=N:=⟨_,rfl⟩
 have HD:=box (show foundD D head size=N.foldl (findOne D head size) ⟨0,0,0,true,[]⟩ from by unfold foundD;rw[hN])
 unfold FoundDone
 rw[HD.out]
 rw[hN]at hnf Hlel Hnm ⊢
 have hFw1:=box (fun b (hb:F b)=>Nat.lt_of_lt_of_le (hFw.out b hb) HC1.out.size)
 have hrw1:=Nat.lt_of_lt_of_le hrw HC1.out.size
 clear hlv hcl hlnew hlel hlold c0 c1 hlt hN
 go_wp2_with fail
 go_loopw [3,4,21] (fun nv wv iv wr=>∃(k:Nat) (x:FoundS) (v:Value),k≤N.length∧iv=.int .i64 k∧wv=.bool x.whole∧Box (x=(N.take k).foldl (findOne D head size) ⟨0,0,0,true,[]⟩)∧Box (FdS W w1 r p n D head size F x v nv wr)) (fun _ _ iv _=>N.length-(intOf iv).toNat)
 case atStart=>exact⟨0,⟨0,0,0,true,[]⟩,.slice none 0 0,Nat.zero_le _,rfl,rfl,box rfl,HF0⟩
 case round =>
  rename_i nv wv
  clear HF0
  obtain⟨k,x,v,hk,rfl,rfl,Hx,HS⟩:=hrel
  obtain⟨wo,hwo⟩:∃wo:World,wo=wr:=⟨_,rfl⟩
  subst hwo
  have hox:=others_len (D:=D) (head:=head) (size:=size) (N.take k) ⟨0,0,0,true,[]⟩
  rw[←Hx.out,List.length_take]at hox
  have hox2:x.others.length≤1000000:=by simp only[List.length_nil]at hox;omega
  have Hfo:=box (show FoundOk size x by rw[Hx.out];exact FoundOk.all D head _ _ (FoundOk.new size))
  obtain⟨na,nc,hnv,hnc⟩:=row_cap HS.out.oth
  subst hnv
  obtain⟨va,vc,hvv,hvc,hvm,hvel⟩:=HS.out.seg.row.uni
  have hvv:v=.slice va x.cnt vc:=hvv
  subst hvv
  clear hvel hvm hvc hox
  by_cases hlk:k<N.length
  ·obtain⟨lb,loff,rfl,hlb,hc⟩:=Hlel.out k hlk
   have hne:=Hlold.out lb loff rfl
   have dc:wo.cell? ⟨lb,loff+k,none⟩=some (.string (N.getD k ByteArray.empty)):=(World.cell?_of_block (w:=w1) (a:=⟨lb,loff+k,none⟩) (HS.out.keep.block lb hlb (fun e=>by rcases e with e|e;exact hne e;omega))).trans hc
   have hmem:=Hnm.out N[k] (List.getElem_mem _)
   have Hstep:=box (fold_snoc (findOne D head size) ⟨0,0,0,true,[]⟩ N k hlk)
   rw[List.getD_eq_getElem?_getD,List.getElem?_eq_getElem hlk]at dc
   simp only[Option.getD_some]at dc
   obtain⟨s,hs⟩:∃s,N[k]=s:=⟨_,rfl⟩
   rw[hs]at dc hmem Hstep
   rw[←Hx.out]at Hstep
   have dlb:=Nat.lt_of_lt_of_le hlb HS.out.keep.size
   have c0:=HS.out.seg.row.cells.1
   have c1:wo.cell? ⟨r,1,none⟩=some (.string head):=HS.out.seg.row.cells.2.1
   have hlt:=heap_lt HS.out.seg.row.at_
   have hplace:=box (Place_any head s wo (by omega))
   clear hc hs hlb
   go_wp2_with fail
   refine hplace.out.mono ?_
   rintro e w2 ⟨rfl,hc2⟩
   have HS2:=box (HS.out.calm hc2)
   clear hc2 hplace dc dlb c0 c1 hlt
   cases hp:placeOf head s with
   | none =>
    have hpi:placeI head s=(0,false):=by unfold placeI;rw[hp]
    have hst:findOne D head size x s=x:=by unfold findOne;rw[hp]
    rw[hst]at Hstep
    rw[hpi]
    clear hp hpi hst
    go_wp2_with fail
    go_roundw
    case rel=>exact⟨k+1,x,_,by omega,by go_num,rfl,box Hstep.out.symm,HS2⟩
    case measure=>simp [intOf];omega
   | some q =>
    have hpi:placeI head s=((q:Int),true):=by unfold placeI;rw[hp]
    have hq:=(name_place hp).1
    have hst:findOne D head size x s=findStep size x s q (D.len s):=by unfold findOne;rw[hp]
    have hLle:=len_le hgood.out s
    rw[hst]at Hstep
    rw[hpi]
    have c0:=HS2.out.seg.row.cells.1
    have c2:w2.cell? ⟨r,2,none⟩=some (.int .i64 (size:Int)):=HS2.out.seg.row.cells.2.2.1
    have c3:w2.cell? ⟨r,3,none⟩=some (.slice va x.cnt vc):=HS2.out.seg.row.cells.2.2.2.1
    have c4:w2.cell? ⟨r,4,none⟩=some (.int .i64 (x.fin:Int)):=HS2.out.seg.row.cells.2.2.2.2.1
    have hlt:=heap_lt HS2.out.seg.row.at_
    have hlen:=box (Len_any s w2 HS2.out.seg.disk.lies)
    have Hnew:=box (Hfo.out.step s (long:=D.len s) hq)
    obtain⟨L,hL⟩:∃L,D.len s=L:=⟨_,rfl⟩
    rw[hL]at Hstep hLle hlen Hnew
    have hrem:Int.tmod (q:Int) size=((q%size:Nat):Int):=by rw[Int.tmod_eq_emod_of_nonneg (by omega)];rfl
    have hsne:((size:Int)==0)=false:=beq_eq_false_iff_ne.2 (by omega)
    have hsne2:¬(size:Int)=0:=by omega
    have Hfull:=box Hfo.out.full
    have Hnone:=box Hfo.out.none
    have Hmd:=box (show q%size≤q from Nat.mod_le _ _)
    obtain⟨md,hmd⟩:∃md,q%size=md:=⟨_,rfl⟩
    have Hsp:=box (show findStep size x s q L=if md≠0 then { x with others:=x.others++[s] } else if x.whole=false∨¬(x.cnt=0∨q=x.fin)∨size<L then { x with others:=x.others++[s],whole:=x.whole && decide (x.cnt=0) } else { x with start:=if x.cnt=0 then q else x.start,cnt:=x.cnt+1,fin:=q+L,whole:=decide (L=size) } by unfold findStep;rw[hmd])
    rw[hmd]at hrem Hmd
    have qmd:IntKind.i64.wrap (md:Int)=(md:Int):=IntWalk.i64_in _ (by have:=Hmd.out;omega)
    clear hp hpi hst hL hmd Hfo
    by_cases h0:x.cnt=0
    ·have hwh:x.whole=true:=(Hnone.out h0).2.2
     have Hwh:=box hwh
     have tc:((x.cnt:Int)==0)=true:=beq_iff_eq.2 (by omega)
     have tc2:(x.cnt==0)=true:=beq_iff_eq.2 h0
     have tc3:decide (x.cnt=0)=true:=decide_eq_true h0
     have Hc0:=box h0
     clear h0
     by_cases hmd0:md=0
     ·subst hmd0
      rw[hwh]
      clear hwh
      by_cases hLs:size<L
      ·have tl:decide (size<L)=true:=decide_eq_true hLs
       have tl2:decide ((size:Int)<(L:Int))=true:=decide_eq_true (by omega)
       have Hxe:=box (show findStep size x s q L = { x with others:=x.others++[s],whole:=true && decide (x.cnt=0) } by rw[Hsp.out,if_neg (fun h=>h rfl),if_pos (.inr (.inr hLs)),Hwh.out])
       clear hLs
       obtain⟨v2,w6,happ,hrow6,hk6,hg6⟩:=append_name2 (w2.alloc (.cells #[.string s] 9)) (.slice na x.others.length nc) x.others s w2.heap.size (HS2.out.oth.alloc _) (heap_new _ _) (by omega) 61
       obtain⟨a2,c2',hv2,hc2'⟩:=row_cap hrow6
       rw[List.length_append,List.length_singleton]at hv2
       subst hv2
       have Happ:=box happ
       have hF6:=(HS2.out.calm ((Calm.refl w2).alloc (.cells #[.string s] 9))).other hFw1.out hrw1 s (true && decide (x.cnt=0)) hk6 hrow6 hg6
       have HF6:=box hF6
       have e3:w6.cell? ⟨r,3,none⟩=some (.slice va x.cnt vc):=hF6.seg.row.cells.2.2.2.1
       have elt:=heap_lt hF6.seg.row.at_
       clear happ hrow6 hk6 hg6 hF6
       go_wp2_with fail
       refine hlen.out.mono ?_
       rintro e w3 ⟨rfl,rfl⟩
       go_wp2_with (first|(at_builtin;refine Lib.wpList_append_run _ rfl _ _ _ _ rfl _ _ rfl rfl _ _ Happ.out ?_)|fail)
       go_roundw
       case rel=>exact⟨k+1,_,_,by omega,by go_num,(by first|rfl|(simp [Hc0.out];done)|(simp [Hwh.out];done)|(simp;done)|(refine val_bool ?_;rw[Bool.eq_iff_iff];simp;omega)),box (by rw[Hstep.out];exact Hxe.out.symm),HF6⟩
       case measure=>simp [intOf];omega
      ·have tl:decide (size<L)=false:=decide_eq_false hLs
       have tl2:decide ((size:Int)<(L:Int))=false:=decide_eq_false (by omega)
       have Hxe:=box (show findStep size x s q L = { x with start:=if x.cnt=0 then q else x.start,cnt:=x.cnt+1,fin:=q+L,whole:=decide (L=size) } by rw[Hsp.out,if_neg (fun h=>h rfl),if_neg (by rw[Hwh.out];intro h;rcases h with h|h|h;exact absurd h (by decide);exact h (.inl Hc0.out);exact hLs h)])
       clear hLs
       have hnewok:=Hnew.out
       rw[Hxe.out]at hnewok
       obtain⟨v2,w6,happ,hrow6,hk6,hg6⟩:=append_place (w2.alloc (.cells #[.int .i64 (q:Int)] 3)) (.slice va x.cnt vc) (x.row0 head size).places q w2.heap.size (by rw[RowS.length];exact HS2.out.seg.row.row.alloc _) (heap_new _ _) (by rw[RowS.length];have h1:=HS2.out.seg.row.ok.few;omega) 69
       obtain⟨a2,c2',hv2,hc2'⟩:=row_cap hrow6
       rw[List.length_append,List.length_singleton,RowS.length]at hv2
       have hv2:v2=.slice a2 (x.cnt+1) c2':=hv2
       subst hv2
       have Happ:=box happ
       have hF6:=(HS2.out.calm ((Calm.refl w2).alloc (.cells #[.int .i64 (q:Int)] 3))).place hrw1 q L (decide (L=size)) hk6 hrow6 hg6 (.inl Hc0.out) (hnewok.row0 hz head hhd)
       have HF6:=box (show FdS W w1 r p n D head size F { x with start:=if x.cnt=0 then q else x.start,cnt:=x.cnt+1,fin:=q+L,whole:=decide (L=size) } (.slice a2 (x.cnt+1) c2') (.slice na x.others.length nc) ((w6.setCell ⟨r,3,none⟩ (.slice a2 (x.cnt+1) c2')).setCell ⟨r,4,none⟩ (.int .i64 ((q:Int)+L))) from hF6.2)
       have e3:w6.cell? ⟨r,3,none⟩=some (.slice va x.cnt vc):=cell_of hF6.1 3
       have f3:=free_of hF6.1 3
       have f4:(w6.setCell ⟨r,3,none⟩ (.slice a2 (x.cnt+1) c2')).frozen? ⟨r,4,none⟩=false:=free_of (heap_set hF6.1 3 _) 4
       have e4:(w6.setCell ⟨r,3,none⟩ (.slice a2 (x.cnt+1) c2')).cell? ⟨r,4,none⟩=some (.int .i64 (x.fin:Int)):=cell_of (heap_set hF6.1 3 _) 4
       have e2:((w6.setCell ⟨r,3,none⟩ (.slice a2 (x.cnt+1) c2')).setCell ⟨r,4,none⟩ (.int .i64 ((q:Int)+L))).cell? ⟨r,2,none⟩=some (.int .i64 (size:Int)):=hF6.2.seg.row.cells.2.2.1
       have elt:=heap_lt hF6.1
       have qsum:IntKind.i64.wrap ((q:Int)+L)=(q:Int)+L:=IntWalk.i64_in _ (by omega)
       clear happ hrow6 hk6 hg6 hF6 hnewok
       go_wp2_with fail
       refine hlen.out.mono ?_
       rintro e w3 ⟨rfl,rfl⟩
       go_wp2_with (first|(at_builtin;refine Lib.wpList_append_run _ rfl _ _ _ _ rfl _ _ rfl rfl _ _ Happ.out ?_)|fail)
       go_roundw
       case rel=>exact⟨k+1,_,_,by omega,by go_num,(by first|rfl|(simp [Hc0.out];done)|(simp [Hwh.out];done)|(simp;done)|(refine val_bool ?_;rw[Bool.eq_iff_iff];simp;omega)),box (by rw[Hstep.out];exact Hxe.out.symm),HF6⟩
       case measure=>simp [intOf];omega
     ·have tm:((md:Int) != 0)=true:=bne_iff_ne.2 (by omega)
      have tm2:((md:Int)==0)=false:=beq_eq_false_iff_ne.2 (by omega)
      have tm3:(md==0)=false:=beq_eq_false_iff_ne.2 hmd0
      have Hxe:=box (show findStep size x s q L = { x with others:=x.others++[s] } by rw[Hsp.out,if_pos hmd0])
      clear hmd0
      obtain⟨v2,w6,happ,hrow6,hk6,hg6⟩:=append_name2 (w2.alloc (.cells #[.string s] 9)) (.slice na x.others.length nc) x.others s w2.heap.size (HS2.out.oth.alloc _) (heap_new _ _) (by omega) 61
      obtain⟨a2,c2',hv2,hc2'⟩:=row_cap hrow6
      rw[List.length_append,List.length_singleton]at hv2
      subst hv2
      have Happ:=box happ
      have hF6:=(HS2.out.calm ((Calm.refl w2).alloc (.cells #[.string s] 9))).other hFw1.out hrw1 s (x.whole) hk6 hrow6 hg6
      have HF6:=box hF6
      have e3:w6.cell? ⟨r,3,none⟩=some (.slice va x.cnt vc):=hF6.seg.row.cells.2.2.2.1
      have elt:=heap_lt hF6.seg.row.at_
      clear happ hrow6 hk6 hg6 hF6
      go_wp2_with fail
      refine hlen.out.mono ?_
      rintro e w3 ⟨rfl,rfl⟩
      go_wp2_with (first|(at_builtin;refine Lib.wpList_append_run _ rfl _ _ _ _ rfl _ _ rfl rfl _ _ Happ.out ?_)|fail)
      go_roundw
      case rel=>exact⟨k+1,_,_,by omega,by go_num,(by first|rfl|(simp [Hc0.out];done)|(simp [Hwh.out];done)|(simp;done)|(refine val_bool ?_;rw[Bool.eq_iff_iff];simp;omega)),box (by rw[Hstep.out];exact Hxe.out.symm),HF6⟩
      case measure=>simp [intOf];omega
    ·have tc:((x.cnt:Int)==0)=false:=beq_eq_false_iff_ne.2 (by omega)
     have tc2:(x.cnt==0)=false:=beq_eq_false_iff_ne.2 h0
     have Hc0:=box h0
     clear h0
     by_cases hqf:q=x.fin
     ·have tf:((q:Int)==(x.fin:Int))=true:=beq_iff_eq.2 (by omega)
      have tf2:(q==x.fin)=true:=beq_iff_eq.2 hqf
      have Hqf:=box hqf
      clear hqf
      by_cases hmd0:md=0
      ·subst hmd0
       by_cases hwh:x.whole=true
       ·have Hwh:=box hwh
        (try rw[hwh])
        clear hwh
        by_cases hLs:size<L
        ·have tl:decide (size<L)=true:=decide_eq_true hLs
         have tl2:decide ((size:Int)<(L:Int))=true:=decide_eq_true (by omega)
         have Hxe:=box (show findStep size x s q L = { x with others:=x.others++[s],whole:=true && decide (x.cnt=0) } by rw[Hsp.out,if_neg (fun h=>h rfl),if_pos (.inr (.inr hLs)),Hwh.out])
         clear hLs
         obtain⟨v2,w6,happ,hrow6,hk6,hg6⟩:=append_name2 (w2.alloc (.cells #[.string s] 9)) (.slice na x.others.length nc) x.others s w2.heap.size (HS2.out.oth.alloc _) (heap_new _ _) (by omega) 61
         obtain⟨a2,c2',hv2,hc2'⟩:=row_cap hrow6
         rw[List.length_append,List.length_singleton]at hv2
         subst hv2
         have Happ:=box happ
         have hF6:=(HS2.out.calm ((Calm.refl w2).alloc (.cells #[.string s] 9))).other hFw1.out hrw1 s (true && decide (x.cnt=0)) hk6 hrow6 hg6
         have HF6:=box hF6
         have e3:w6.cell? ⟨r,3,none⟩=some (.slice va x.cnt vc):=hF6.seg.row.cells.2.2.2.1
         have elt:=heap_lt hF6.seg.row.at_
         clear happ hrow6 hk6 hg6 hF6
         go_wp2_with fail
         refine hlen.out.mono ?_
         rintro e w3 ⟨rfl,rfl⟩
         go_wp2_with (first|(at_builtin;refine Lib.wpList_append_run _ rfl _ _ _ _ rfl _ _ rfl rfl _ _ Happ.out ?_)|fail)
         go_roundw
         case rel=>exact⟨k+1,_,_,by omega,by go_num,(by first|rfl|(simp [Hc0.out];done)|(simp [Hwh.out];done)|(simp;done)|(refine val_bool ?_;rw[Bool.eq_iff_iff];simp;omega)),box (by rw[Hstep.out];exact Hxe.out.symm),HF6⟩
         case measure=>simp [intOf];omega
        ·have tl:decide (size<L)=false:=decide_eq_false hLs
         have tl2:decide ((size:Int)<(L:Int))=false:=decide_eq_false (by omega)
         have Hxe:=box (show findStep size x s q L = { x with start:=if x.cnt=0 then q else x.start,cnt:=x.cnt+1,fin:=q+L,whole:=decide (L=size) } by rw[Hsp.out,if_neg (fun h=>h rfl),if_neg (by rw[Hwh.out];intro h;rcases h with h|h|h;exact absurd h (by decide);exact h (.inr Hqf.out);exact hLs h)])
         clear hLs
         have hnewok:=Hnew.out
         rw[Hxe.out]at hnewok
         obtain⟨v2,w6,happ,hrow6,hk6,hg6⟩:=append_place (w2.alloc (.cells #[.int .i64 (q:Int)] 3)) (.slice va x.cnt vc) (x.row0 head size).places q w2.heap.size (by rw[RowS.length];exact HS2.out.seg.row.row.alloc _) (heap_new _ _) (by rw[RowS.length];have h1:=HS2.out.seg.row.ok.few;omega) 69
         obtain⟨a2,c2',hv2,hc2'⟩:=row_cap hrow6
         rw[List.length_append,List.length_singleton,RowS.length]at hv2
         have hv2:v2=.slice a2 (x.cnt+1) c2':=hv2
         subst hv2
         have Happ:=box happ
         have hF6:=(HS2.out.calm ((Calm.refl w2).alloc (.cells #[.int .i64 (q:Int)] 3))).place hrw1 q L (decide (L=size)) hk6 hrow6 hg6 (.inr (Hqf.out.trans (Hfull.out (by have:=Hc0.out;omega) Hwh.out))) (hnewok.row0 hz head hhd)
         have HF6:=box (show FdS W w1 r p n D head size F { x with start:=if x.cnt=0 then q else x.start,cnt:=x.cnt+1,fin:=q+L,whole:=decide (L=size) } (.slice a2 (x.cnt+1) c2') (.slice na x.others.length nc) ((w6.setCell ⟨r,3,none⟩ (.slice a2 (x.cnt+1) c2')).setCell ⟨r,4,none⟩ (.int .i64 ((q:Int)+L))) from hF6.2)
         have e3:w6.cell? ⟨r,3,none⟩=some (.slice va x.cnt vc):=cell_of hF6.1 3
         have f3:=free_of hF6.1 3
         have f4:(w6.setCell ⟨r,3,none⟩ (.slice a2 (x.cnt+1) c2')).frozen? ⟨r,4,none⟩=false:=free_of (heap_set hF6.1 3 _) 4
         have e4:(w6.setCell ⟨r,3,none⟩ (.slice a2 (x.cnt+1) c2')).cell? ⟨r,4,none⟩=some (.int .i64 (x.fin:Int)):=cell_of (heap_set hF6.1 3 _) 4
         have e2:((w6.setCell ⟨r,3,none⟩ (.slice a2 (x.cnt+1) c2')).setCell ⟨r,4,none⟩ (.int .i64 ((q:Int)+L))).cell? ⟨r,2,none⟩=some (.int .i64 (size:Int)):=hF6.2.seg.row.cells.2.2.1
         have elt:=heap_lt hF6.1
         have qsum:IntKind.i64.wrap ((q:Int)+L)=(q:Int)+L:=IntWalk.i64_in _ (by omega)
         clear happ hrow6 hk6 hg6 hF6 hnewok
         go_wp2_with fail
         refine hlen.out.mono ?_
         rintro e w3 ⟨rfl,rfl⟩
         go_wp2_with (first|(at_builtin;refine Lib.wpList_append_run _ rfl _ _ _ _ rfl _ _ rfl rfl _ _ Happ.out ?_)|fail)
         go_roundw
         case rel=>exact⟨k+1,_,_,by omega,by go_num,(by first|rfl|(simp [Hc0.out];done)|(simp [Hwh.out];done)|(simp;done)|(refine val_bool ?_;rw[Bool.eq_iff_iff];simp;omega)),box (by rw[Hstep.out];exact Hxe.out.symm),HF6⟩
         case measure=>simp [intOf];omega
       ·have hwh:x.whole=false:=by simpa using hwh
        have Hxe:=box (show findStep size x s q L = { x with others:=x.others++[s],whole:=false } by rw[Hsp.out,if_neg (fun h=>h rfl),if_pos (.inl hwh),hwh];rfl)
        (try rw[hwh])
        clear hwh
        obtain⟨v2,w6,happ,hrow6,hk6,hg6⟩:=append_name2 (w2.alloc (.cells #[.string s] 9)) (.slice na x.others.length nc) x.others s w2.heap.size (HS2.out.oth.alloc _) (heap_new _ _) (by omega) 61
        obtain⟨a2,c2',hv2,hc2'⟩:=row_cap hrow6
        rw[List.length_append,List.length_singleton]at hv2
        subst hv2
        have Happ:=box happ
        have hF6:=(HS2.out.calm ((Calm.refl w2).alloc (.cells #[.string s] 9))).other hFw1.out hrw1 s (false) hk6 hrow6 hg6
        have HF6:=box hF6
        have e3:w6.cell? ⟨r,3,none⟩=some (.slice va x.cnt vc):=hF6.seg.row.cells.2.2.2.1
        have elt:=heap_lt hF6.seg.row.at_
        clear happ hrow6 hk6 hg6 hF6
        go_wp2_with fail
        refine hlen.out.mono ?_
        rintro e w3 ⟨rfl,rfl⟩
        go_wp2_with (first|(at_builtin;refine Lib.wpList_append_run _ rfl _ _ _ _ rfl _ _ rfl rfl _ _ Happ.out ?_)|fail)
        go_roundw
        case rel=>exact⟨k+1,_,_,by omega,by go_num,(by first|rfl|(simp [Hc0.out];done)|(simp [Hwh.out];done)|(simp;done)|(refine val_bool ?_;rw[Bool.eq_iff_iff];simp;omega)),box (by rw[Hstep.out];exact Hxe.out.symm),HF6⟩
        case measure=>simp [intOf];omega
      ·have tm:((md:Int) != 0)=true:=bne_iff_ne.2 (by omega)
       have tm2:((md:Int)==0)=false:=beq_eq_false_iff_ne.2 (by omega)
       have tm3:(md==0)=false:=beq_eq_false_iff_ne.2 hmd0
       have Hxe:=box (show findStep size x s q L = { x with others:=x.others++[s] } by rw[Hsp.out,if_pos hmd0])
       clear hmd0
       obtain⟨v2,w6,happ,hrow6,hk6,hg6⟩:=append_name2 (w2.alloc (.cells #[.string s] 9)) (.slice na x.others.length nc) x.others s w2.heap.size (HS2.out.oth.alloc _) (heap_new _ _) (by omega) 61
       obtain⟨a2,c2',hv2,hc2'⟩:=row_cap hrow6
       rw[List.length_append,List.length_singleton]at hv2
       subst hv2
       have Happ:=box happ
       have hF6:=(HS2.out.calm ((Calm.refl w2).alloc (.cells #[.string s] 9))).other hFw1.out hrw1 s (x.whole) hk6 hrow6 hg6
       have HF6:=box hF6
       have e3:w6.cell? ⟨r,3,none⟩=some (.slice va x.cnt vc):=hF6.seg.row.cells.2.2.2.1
       have elt:=heap_lt hF6.seg.row.at_
       clear happ hrow6 hk6 hg6 hF6
       go_wp2_with fail
       refine hlen.out.mono ?_
       rintro e w3 ⟨rfl,rfl⟩
       go_wp2_with (first|(at_builtin;refine Lib.wpList_append_run _ rfl _ _ _ _ rfl _ _ rfl rfl _ _ Happ.out ?_)|fail)
       go_roundw
       case rel=>exact⟨k+1,_,_,by omega,by go_num,(by first|rfl|(simp [Hc0.out];done)|(simp [Hwh.out];done)|(simp;done)|(refine val_bool ?_;rw[Bool.eq_iff_iff];simp;omega)),box (by rw[Hstep.out];exact Hxe.out.symm),HF6⟩
       case measure=>simp [intOf];omega
     ·have tf:((q:Int)==(x.fin:Int))=false:=beq_eq_false_iff_ne.2 (by omega)
      have tf2:(q==x.fin)=false:=beq_eq_false_iff_ne.2 hqf
      have Hqf:=box hqf
      clear hqf
      by_cases hmd0:md=0
      ·subst hmd0
       cases hwh:x.whole
       ·have Hxe:=box (show findStep size x s q L = { x with others:=x.others++[s],whole:=false } by rw[Hsp.out,if_neg (fun h=>h rfl),if_pos (.inl hwh),hwh];rfl)
        clear hwh
        obtain⟨v2,w6,happ,hrow6,hk6,hg6⟩:=append_name2 (w2.alloc (.cells #[.string s] 9)) (.slice na x.others.length nc) x.others s w2.heap.size (HS2.out.oth.alloc _) (heap_new _ _) (by omega) 61
        obtain⟨a2,c2',hv2,hc2'⟩:=row_cap hrow6
        rw[List.length_append,List.length_singleton]at hv2
        subst hv2
        have Happ:=box happ
        have hF6:=(HS2.out.calm ((Calm.refl w2).alloc (.cells #[.string s] 9))).other hFw1.out hrw1 s (false) hk6 hrow6 hg6
        have HF6:=box hF6
        have e3:w6.cell? ⟨r,3,none⟩=some (.slice va x.cnt vc):=hF6.seg.row.cells.2.2.2.1
        have elt:=heap_lt hF6.seg.row.at_
        clear happ hrow6 hk6 hg6 hF6
        go_wp2_with fail
        refine hlen.out.mono ?_
        rintro e w3 ⟨rfl,rfl⟩
        go_wp2_with (first|(at_builtin;refine Lib.wpList_append_run _ rfl _ _ _ _ rfl _ _ rfl rfl _ _ Happ.out ?_)|fail)
        go_roundw
        case rel=>exact⟨k+1,_,_,by omega,by go_num,(by first|rfl|(simp [Hc0.out];done)|(simp [Hwh.out];done)|(simp;done)|(refine val_bool ?_;rw[Bool.eq_iff_iff];simp;omega)),box (by rw[Hstep.out];exact Hxe.out.symm),HF6⟩
        case measure=>simp [intOf];omega
       ·have Hxe:=box (show findStep size x s q L = { x with others:=x.others++[s],whole:=false } by rw[Hsp.out,if_neg (fun h=>h rfl),if_pos (.inr (.inl (fun h=>h.elim Hc0.out Hqf.out))),hwh,decide_eq_false Hc0.out];rfl)
        clear hwh
        obtain⟨v2,w6,happ,hrow6,hk6,hg6⟩:=append_name2 (w2.alloc (.cells #[.string s] 9)) (.slice na x.others.length nc) x.others s w2.heap.size (HS2.out.oth.alloc _) (heap_new _ _) (by omega) 61
        obtain⟨a2,c2',hv2,hc2'⟩:=row_cap hrow6
        rw[List.length_append,List.length_singleton]at hv2
        subst hv2
        have Happ:=box happ
        have hF6:=(HS2.out.calm ((Calm.refl w2).alloc (.cells #[.string s] 9))).other hFw1.out hrw1 s (false) hk6 hrow6 hg6
        have HF6:=box hF6
        have e3:w6.cell? ⟨r,3,none⟩=some (.slice va x.cnt vc):=hF6.seg.row.cells.2.2.2.1
        have elt:=heap_lt hF6.seg.row.at_
        clear happ hrow6 hk6 hg6 hF6
        go_wp2_with fail
        refine hlen.out.mono ?_
        rintro e w3 ⟨rfl,rfl⟩
        go_wp2_with (first|(at_builtin;refine Lib.wpList_append_run _ rfl _ _ _ _ rfl _ _ rfl rfl _ _ Happ.out ?_)|fail)
        go_roundw
        case rel=>exact⟨k+1,_,_,by omega,by go_num,(by first|rfl|(simp [Hc0.out];done)|(simp [Hwh.out];done)|(simp;done)|(refine val_bool ?_;rw[Bool.eq_iff_iff];simp;omega)),box (by rw[Hstep.out];exact Hxe.out.symm),HF6⟩
        case measure=>simp [intOf];omega
      ·have tm:((md:Int) != 0)=true:=bne_iff_ne.2 (by omega)
       have tm2:((md:Int)==0)=false:=beq_eq_false_iff_ne.2 (by omega)
       have tm3:(md==0)=false:=beq_eq_false_iff_ne.2 hmd0
       have Hxe:=box (show findStep size x s q L = { x with others:=x.others++[s] } by rw[Hsp.out,if_pos hmd0])
       clear hmd0
       obtain⟨v2,w6,happ,hrow6,hk6,hg6⟩:=append_name2 (w2.alloc (.cells #[.string s] 9)) (.slice na x.others.length nc) x.others s w2.heap.size (HS2.out.oth.alloc _) (heap_new _ _) (by omega) 61
       obtain⟨a2,c2',hv2,hc2'⟩:=row_cap hrow6
       rw[List.length_append,List.length_singleton]at hv2
       subst hv2
       have Happ:=box happ
       have hF6:=(HS2.out.calm ((Calm.refl w2).alloc (.cells #[.string s] 9))).other hFw1.out hrw1 s (x.whole) hk6 hrow6 hg6
       have HF6:=box hF6
       have e3:w6.cell? ⟨r,3,none⟩=some (.slice va x.cnt vc):=hF6.seg.row.cells.2.2.2.1
       have elt:=heap_lt hF6.seg.row.at_
       clear happ hrow6 hk6 hg6 hF6
       go_wp2_with fail
       refine hlen.out.mono ?_
       rintro e w3 ⟨rfl,rfl⟩
       go_wp2_with (first|(at_builtin;refine Lib.wpList_append_run _ rfl _ _ _ _ rfl _ _ rfl rfl _ _ Happ.out ?_)|fail)
       go_roundw
       case rel=>exact⟨k+1,_,_,by omega,by go_num,(by first|rfl|(simp [Hc0.out];done)|(simp [Hwh.out];done)|(simp;done)|(refine val_bool ?_;rw[Bool.eq_iff_iff];simp;omega)),box (by rw[Hstep.out];exact Hxe.out.symm),HF6⟩
       case measure=>simp [intOf];omega
  ·obtain rfl:k=N.length:=by omega
   have hx:x=N.foldl (findOne D head size) ⟨0,0,0,true,[]⟩:=by rw[Hx.out,List.take_length]
   have Hx2:=box hx
   clear hx
   go_wp2_with fail
   go_ret
   exact⟨_,_,w1,rfl,HC1.out,by rw[HD.out,←Hx2.out];exact HS.out⟩
end
section
variable {W w w' w1:World} {r p n:Nat} {R R' R1:RowS} {v v' v1 nv:Value} {D D':DiskS} {F F':Nat→Prop} {head:ByteArray} {size:Nat} {x:FoundS}
def OpenDone (W:World) (p n:Nat) (D:DiskS) (head:ByteArray) (k:Int) (F:Nat→Prop) (w:World) (e:Ending) (w':World):Prop :=
 ∃rv F',e=.returned (.tuple #[rv,.int .i64 (openD D head k).1])∧DiskOk w' p (openD D head k).2.1 F' n∧Step F w F' w' ∧
  (((openD D head k).1≠0∧rv=.pointer none)∨((openD D head k).1=0∧∃r v,rv=ptrTo r∧w.heap.size≤r∧SegAt W w' r p n (openD D head k).2.1 (openD D head k).2.2 F' v∧∀g,v.ownBlock=some g→w.heap.size≤g))
theorem open_refused {c:Int} (h:DiskOk w p D F n) (hc:Calm w w') (k:Int) (R0:RowS) (h0:c≠0) (he:openD D head k=(c,D,R0)):OpenDone W p n D head k F w (.returned (.tuple #[.pointer none,.int .i64 c])) w' :=
 ⟨_,F,by rw[he],by rw[he];exact h.calm hc,Step.of_calm hc,.inl ⟨by rw[he];exact h0,rfl⟩⟩
set_option maxHeartbeats 8000000 in
theorem Open_any (head:ByteArray) (k:Int) (w:World) (h:DiskOk w p D F n) (ht:Tab W) (hcW:Calm W w) (hfW:∀b,F b→W.heap.size≤b) (hn:n≤1000000) (hh:head.size≤1000000) (hfn:∀f∈D.files,f.name.size≤1000000) (hl:D.files.length≤1000000) :
  Calls Tryz.prog 54 #[ptrTo p,.string head,.int .i64 k] w (OpenDone W p n D head k F w):=by
 have H:=box h
 have HDD:=box (Down_any w h.lies)
 have hFw:=box h.foot_lt
 clear h
 by_cases h1:k<16
 ·have hr:openD D head k=(1,D,⟨head,0,0,0,0,0⟩):=by unfold openD;rw[if_pos (.inl h1)]
  have t1:decide (k<16)=true:=decide_eq_true h1
  have Hr:=box hr
  clear hr h1
  go_enter Tryz.func54,Tryz.ntmps54
  go_wp2_with fail
  go_ret2
  exact open_refused H.out (Calm.refl _) k _ (by decide) Hr.out
 have t1:decide (k<16)=false:=decide_eq_false h1
 by_cases h2:4096<k
 ·have hr:openD D head k=(1,D,⟨head,0,0,0,0,0⟩):=by unfold openD;rw[if_pos (.inr h2)]
  have t2:decide (4096<k)=true:=decide_eq_true h2
  have Hr:=box hr
  clear hr h1 h2
  go_enter Tryz.func54,Tryz.ntmps54
  go_wp2_with fail
  go_ret2
  exact open_refused H.out (Calm.refl _) k _ (by decide) Hr.out
 have t2:decide (4096<k)=false:=decide_eq_false h2
 have hor:¬(k<16∨4096<k):=by omega
 by_cases hd:D.down=true
 ·have hr:openD D head k=(8,D,⟨head,0,0,0,0,0⟩):=by unfold openD;rw[if_neg hor,if_pos hd]
  have Hr:=box hr
  rw[hd]at HDD
  clear hr h1 h2 hor hd
  go_enter Tryz.func54,Tryz.ntmps54
  go_wp2_with fail
  refine HDD.out.mono ?_
  rintro e w1 ⟨rfl,rfl⟩
  go_wp2_with fail
  go_ret2
  exact open_refused H.out (Calm.refl _) k _ (by decide) Hr.out
 have hdf:D.down=false:=by simpa using hd
 rw[hdf]at HDD
 obtain⟨size,rfl⟩:∃size:Nat,k=size:=⟨k.toNat,by omega⟩
 have hz:16≤size∧size≤4096:=by omega
 have hr0:openD D head size=if (foundD D head size).others=[] then (0,D,(foundD D head size).row head size) else ((D.delete (foundD D head size).others).1,(D.delete (foundD D head size).others).2,(foundD D head size).row head size):=by
  unfold openD;rw[if_neg hor,if_neg hd,Int.toNat_natCast]
 have Hr0:=box hr0
 have hoth:=others_len (D:=D) (head:=head) (size:=size) (D.names head) ⟨0,0,0,true,[]⟩
 have hnf:=names_few D head
 have hx:foundD D head size=(D.names head).foldl (findOne D head size) ⟨0,0,0,true,[]⟩:=rfl
 rw[←hx]at hoth
 have hol:(foundD D head size).others.length≤1000000:=by simp only[List.length_nil]at hoth;omega
 have Hfo:=box (show FoundOk size (foundD D head size) from FoundOk.all D head _ _ (FoundOk.new size))
 have hcal:=(Calm.refl w).alloc (.cells (rowCells p ⟨head,size,0,0,0,0⟩ (.slice none 0 0)) 128)
 have hnew:=heap_new w (.cells (rowCells p ⟨head,size,0,0,0,0⟩ (.slice none 0 0)) 128)
 obtain⟨X,hX⟩:∃X,foundD D head size=X:=⟨_,rfl⟩
 have Hfd:=box (fun (W':World) (hS:SegAt W W' w.heap.size p n D ⟨head,size,0,0,0,0⟩ F (.slice none 0 0))=>found_any W' hS hfn hl)
 have hS0:SegAt W (w.alloc (.cells (rowCells p ⟨head,size,0,0,0,0⟩ (.slice none 0 0)) 128)) w.heap.size p n D ⟨head,size,0,0,0,0⟩ F (.slice none 0 0) :=
  ⟨H.out.calm hcal,⟨hnew,World.ownsRow_nil _ _ _ _,⟨hz,hh,fun _=>⟨rfl,rfl⟩,fun h=>absurd h (Nat.lt_irrefl 0),fun h=>absurd h (Nat.lt_irrefl 0),Nat.zero_mod _,Nat.zero_le _⟩⟩,ht,hcW.trans hcal,hfW,hcW.size,fun g hg=>by cases hg⟩
 have HS0:=box hS0
 have hcr:rowCells p ⟨head,size,0,0,0,0⟩ (.slice none 0 0)=#[ptrTo p,.string head,.int .i64 size,.slice none 0 0,.int .i64 0,.int .i64 0]:=rfl
 obtain⟨w1,hw1⟩:∃x,w.alloc (.cells #[ptrTo p,.string head,.int .i64 size,.slice none 0 0,.int .i64 0,.int .i64 0] 128)=x:=⟨_,rfl⟩
 rw[hcr,hw1]at HS0 hcal
 have HC1:=box hcal
 have hfound:=box (Hfd.out w1 HS0.out)
 unfold FoundDone at hfound
 rw[hX]at hfound Hr0 Hfo hol
 clear hr0 hoth hnf hx hcal hnew hS0 hcr Hfd hd hdf hor h1 h2 hX hfn
 go_enter Tryz.func54,Tryz.ntmps54
 go_wp2_with fail
 refine HDD.out.mono ?_
 rintro e w0 ⟨rfl,rfl⟩
 go_wp2_with fail
 (try rw[hw1])
 refine hfound.out.mono ?_
 rintro e wf ⟨v,nv,w2,rfl,hc2,hF⟩
 have HF:=box hF
 have hcw:Calm w wf:=by
  have h1:Calm w w2:=HC1.out.trans hc2
  exact Below.trans h1 (hF.keep.below (B:=w.heap.size) h1.size (fun b hb=>hb.elim (fun e=>by rw[e];exact Nat.le_refl _) (fun hb=>Nat.le_trans h1.size hb)))
 have HCw:=box hcw
 obtain⟨na,nc,hnv,hnc⟩:=row_cap hF.oth
 subst hnv
 have HvW:=box (fun g (hg:v.ownBlock=some g)=>Nat.le_trans (HC1.out.trans hc2).size (hF.vW g hg))
 have hap:Apart (.slice na X.others.length nc) F:=fun a m c e hm hf=>by
  cases e
  have h1:=hF.nW a.block rfl
  have h2:=hFw.out _ hf
  have h3:=(HC1.out.trans hc2).size
  omega
 have hdel:=box (Delete_ok (.slice na X.others.length nc) X.others wf HF.out.seg.disk hn (strs_own HF.out.oth) hap (by omega))
 have hokr:=box (Hfo.out.row hz head hh)
 clear hF hc2 hcw hap hfound hw1
 by_cases h0:X.others=[]
 ·have hr:openD D head size=(0,D,X.row head size):=by rw[Hr0.out,if_pos h0]
  have Hr:=box hr
  have hl0:X.others.length=0:=by rw[h0];rfl
  obtain⟨m,hm⟩:∃m,X.others.length=m:=⟨_,rfl⟩
  rw[hm]at hl0 ⊢
  subst hl0
  clear hr h0 hm hdel
  have c0:=heap_lt HF.out.seg.row.at_
  have f5:=free_of HF.out.seg.row.at_ 5
  have c5:=HF.out.seg.row.cells.2.2.2.2.2
  go_wp2_with fail
  refine(Begin_any _ HF.out.seg.row).mono ?_
  rintro e w4 ⟨rfl,rfl⟩
  have hS5:=HF.out.seg.set (R':=X.row head size) 5 (.int .i64 (X.start:Int)) rfl ⟨rfl,rfl⟩ hokr.out
  have HS5:=box hS5
  clear hS5
  go_wp2_with fail
  go_ret2
  refine⟨_,F,by rw[Hr.out];rfl,by rw[Hr.out];exact HS5.out.1.disk,?_,.inr ⟨by rw[Hr.out],w.heap.size,v,rfl,Nat.le_refl _,by rw[Hr.out];exact HS5.out.1,HvW.out⟩⟩
  exact⟨⟨HS5.out.2.keeps.os.trans HCw.out.os,HS5.out.2.keeps.tape.trans HCw.out.tape,HS5.out.2.keeps.output.trans HCw.out.output,Nat.le_trans HCw.out.size HS5.out.2.keeps.size,fun i hi hn=>(HS5.out.2.keeps.block i (Nat.lt_of_lt_of_le hi HCw.out.size) (fun e=>by
   rcases e with e|e|e
   ·exact hn e
   ·omega
   ·have:=HvW.out i e;omega)).trans (HCw.out.block i hi)⟩,fun b hb=>.inl hb⟩
 ·have hlen:X.others.length≠0:=fun h=>h0 (List.eq_nil_of_length_eq_zero h)
  have t3:decide (0<X.others.length)=true:=decide_eq_true (by omega)
  have t4:decide ((0:Int)<(X.others.length:Int))=true:=decide_eq_true (by omega)
  have hr1:openD D head size=((D.delete X.others).1,(D.delete X.others).2,X.row head size):=by rw[Hr0.out,if_neg h0]
  clear h0 hlen
  go_wp2_with fail
  refine hdel.out.mono ?_
  intro e w4 h4
  obtain⟨⟨c4',D4⟩,hr4⟩:∃x,D.delete X.others=x:=⟨_,rfl⟩
  obtain⟨rfl,F4,hd4,hs4⟩:=h4.at hr4
  rw[hr4]at hr1
  simp only at hr1
  have Hr1:=box hr1
  have S4:=HF.out.seg.disked hd4 hs4
  have HS4:=box S4.1
  have HT4:=box S4.2
  have Hs4:=box (Step.calm_left HCw.out hs4)
  clear hr1 S4 hd4 hs4 h4 hr4 hdel t3 t4
  rcases err_cases c4' with rfl|⟨x1,x2,x3⟩
  ·have c0:=heap_lt HS4.out.row.at_
   have f5:=free_of HS4.out.row.at_ 5
   have c5:=HS4.out.row.cells.2.2.2.2.2
   go_wp2_with fail
   refine(Begin_any _ HS4.out.row).mono ?_
   rintro e w5 ⟨rfl,rfl⟩
   have hS5:=HS4.out.set (R':=X.row head size) 5 (.int .i64 (X.start:Int)) rfl ⟨rfl,rfl⟩ hokr.out
   have HS5:=box hS5
   clear hS5
   go_wp2_with fail
   go_ret2
   refine⟨_,F4,by rw[Hr1.out];rfl,by rw[Hr1.out];exact HS5.out.1.disk,?_,.inr ⟨by rw[Hr1.out],w.heap.size,v,rfl,Nat.le_refl _,by rw[Hr1.out];exact HS5.out.1,HvW.out⟩⟩
   exact⟨⟨HS5.out.2.keeps.os.trans Hs4.out.keeps.os,HS5.out.2.keeps.tape.trans Hs4.out.keeps.tape,HS5.out.2.keeps.output.trans Hs4.out.keeps.output,Nat.le_trans Hs4.out.keeps.size HS5.out.2.keeps.size,fun i hi hn=>(HS5.out.2.keeps.block i (Nat.lt_of_lt_of_le hi Hs4.out.keeps.size) (fun e=>by
    rcases e with e|e|e
    ·rcases Hs4.out.foot i e with h|h
     ·exact hn h
     ·omega
    ·omega
    ·have:=HvW.out i e;omega)).trans (Hs4.out.keeps.block i hi hn)⟩,Hs4.out.foot⟩
  ·go_wp2_with fail
   go_ret2
   exact⟨_,F4,by rw[Hr1.out];rfl,by rw[Hr1.out];exact HS4.out.disk,Hs4.out,.inl ⟨by rw[Hr1.out];exact x1.out,rfl⟩⟩
end
end Go.Proofs.YtiahjipoofeliaaGreatDoor.sg

namespace Go.Proofs.YtiahjipoofeliaaGreatDoor.pr
open Go.ChangeShapes Go.WideShapes Go.ChangeAt Go.RowKit
def signN (c:Nat):Bool:=(decide (97≤c) && decide (c≤122)) || (decide (48≤c) && decide (c≤57)) || decide (c=45)
def signB (c:UInt8):Bool:=signN c.toNat
def plainL (l:List UInt8):Bool:=decide (1≤l.length) && decide (l.length≤16) && l.all signB
def plainB (s:ByteArray):Bool:=plainL s.data.toList
theorem sign_true {c:Nat} (h:(97≤c∧c≤122)∨(48≤c∧c≤57)∨c=45):signN c=true:=by
 simp [signN];omega
theorem sign_false {c:Nat} (h:¬((97≤c∧c≤122)∨(48≤c∧c≤57)∨c=45)):signN c=false:=by
 simp [signN];omega
theorem plain_empty (s:ByteArray) (h:s.size=0):plainB s=false:=by simp [plainB,plainL,h]
theorem rSign (c:UInt8) (h:(97≤(c.toNat:Int)∧(c.toNat:Int)≤122)∨(48≤(c.toNat:Int)∧(c.toNat:Int)≤57)∨(c.toNat:Int)=45):signB c=true:=sign_true (by omega)
theorem rSign' (c:UInt8) (h:¬((97≤(c.toNat:Int)∧(c.toNat:Int)≤122)∨(48≤(c.toNat:Int)∧(c.toNat:Int)≤57)∨(c.toNat:Int)=45)):signB c=false:=sign_false (by omega)
set_option maxHeartbeats 1000000 in
theorem rPlain_any (s:ByteArray) (w:World) (hs:s.size≤maxLen) :
  Calls Tryz.prog 38 #[.string s] w fun e w'=>e=.returned (.bool (plainB s))∧w=w':=by
 unfold maxLen at hs
 go_enter Tryz.func38,Tryz.ntmps38
 go_wp2
 go_loop [3] (fun i=>∃k:Nat,k≤s.size∧i=.int .i64 k∧(s.data.toList.take k).all signB=true) (fun i=>s.size-(intOf i).toNat)
 case atStart=>exact⟨0,Nat.zero_le _,rfl,rfl⟩
 case round =>
  obtain⟨k,hk,rfl,hall⟩:=hrel
  have Hall:=box hall
  clear hall
  by_cases hlt:k<s.size
  ·by_cases hc:(97≤(s[k].toNat:Int)∧(s[k].toNat:Int)≤122)∨(48≤(s[k].toNat:Int)∧(s[k].toNat:Int)≤57)∨(s[k].toNat:Int)=45
   ·have fin:=box (show (s.data.toList.take (k+1)).all signB=true by rw[all_snoc s k hlt signB,Hall.out,Bool.true_and];exact rSign _ hc)
    rcases hc with ⟨c1,c2⟩|⟨c1,c2⟩|c1
    ·go_wp2
     go_round
     case rel=>exact⟨k+1,by omega,by go_num,fin.out⟩
     case measure=>simp [intOf];omega
    ·go_wp2
     go_round
     case rel=>exact⟨k+1,by omega,by go_num,fin.out⟩
     case measure=>simp [intOf];omega
    ·have c2:((s[k].toNat:Int) != 45)=false:=by simp [c1]
     have C1:=box c1
     have c3:(s[k].toNat:Int)≤45:=by omega
     have c4:45≤(s[k].toNat:Int):=by omega
     clear c1
     go_wp2
     go_round
     case rel=>exact⟨k+1,by omega,by go_num,fin.out⟩
     case measure=>simp [intOf];omega
   ·have fin:=box (show plainB s=false by unfold plainB plainL;rw[all_no s k hlt signB (rSign' _ hc)];simp)
    have c2:((s[k].toNat:Int) != 45)=true:=by rw[bne_iff_ne];omega
    go_wp2
    all_goals
     first
      | (go_ret;exact⟨ret_bool (by rw[fin.out]),rfl⟩)
      | (exfalso;simp at *;omega)
  ·have hn:=box (all_take s k (by omega) signB)
   by_cases h1:1≤(s.size:Int)
   ·have hp:=box (show plainB s=decide ((s.size:Int)≤16) by unfold plainB plainL;rw[←hn.out,Hall.out,size_toList,Bool.and_true,decide_eq_true (by omega:1≤s.size),Bool.true_and];exact decide_eq_decide.2 (by omega))
    go_wp2
    go_ret
    exact⟨ret_bool (by rw[hp.out]),rfl⟩
   ·have hp:=box (plain_empty s (by omega))
    go_wp2
    go_ret
    exact⟨ret_bool (by rw[hp.out]),rfl⟩
end Go.Proofs.YtiahjipoofeliaaGreatDoor.pr

namespace Go.Proofs.YtiahjipoofeliaaGreatDoor.sg
open Go.ChangeShapes Go.WideShapes Go.ChangeAt Go.RowKit
open dk pr
section
variable {W w w':World} {r p n c m:Nat} {R R':RowS} {v v':Value} {D D':DiskS} {F F':Nat→Prop} {b:List UInt8}
structure Lw (W:World) (r p n c m:Nat) (D:DiskS) (R:RowS) (b:List UInt8) (F:Nat→Prop) (v:Value) (w:World):Prop where
 seg:SegAt W w r p n D R F v
 holds:Holds D R b
 able:Able D c m
theorem Lw.blks (h:Lw W r p n c m D R b F v w) {blk:Nat} (hb:w.heap.size≤blk):∀f∈D.files,f.blk≠blk:=fun f hf e=>by
 have:F f.blk:=by obtain⟨mb,wv,h1,rfl⟩:=h.seg.disk.lies;exact .inr (.inr (.inr (List.mem_map.2 ⟨f,hf,rfl⟩)))
 have:=h.seg.disk.foot_lt _ this
 omega
theorem open_law (hd:DiskOk w p D F n) (ht:Tab W) (hcW:Calm W w) (hfW:∀b,F b→W.heap.size≤b) (hn:n≤1000000) (ha:Able D c m) (hm:m≤1000000) (hH:Holds D R b) :
  Calls Tryz.prog 54 #[ptrTo p,.string R.head,.int .i64 (R.size:Int)] w fun e w'=>∃r F' v,e=.returned (.tuple #[ptrTo r,.int .i64 0])∧w.heap.size≤r∧Lw W r p n c m D R.anew b F' v w'∧(∀g,v.ownBlock=some g→w.heap.size≤g)∧Step F w F' w':=by
 refine(Open_any R.head R.size w hd ht hcW hfW hn hH.ok.head (ha.file) (by have:=ha.files;omega)).mono ?_
 rintro e w' ⟨rv,F',rfl,hD,hs,hx⟩
 rw[hH.open ha.alive hd.form]at hD hx ⊢
 rcases hx with ⟨h,_⟩|⟨_,r,v,rfl,hr,hS,hv⟩
 ·exact absurd rfl h
 ·exact⟨r,F',v,rfl,hr,⟨hS,hH.anew,ha⟩,hv,hs⟩
theorem open_new (hd:DiskOk w p (dk.new c) F n) (ht:Tab W) (hcW:Calm W w) (hfW:∀b,F b→W.heap.size≤b) (hn:n≤1000000) (hc:c≤16777216) (head:ByteArray) (size:Nat) (hs:16≤size∧size≤4096) (hh:head.size≤1000000) :
  Calls Tryz.prog 54 #[ptrTo p,.string head,.int .i64 (size:Int)] w fun e w'=>∃r F' v,e=.returned (.tuple #[ptrTo r,.int .i64 0])∧w.heap.size≤r∧Lw W r p n c 0 (dk.new c) ⟨head,size,0,0,0,0⟩ [] F' v w'∧(∀g,v.ownBlock=some g→w.heap.size≤g)∧Step F w F' w' :=
 open_law (R:=⟨head,size,0,0,0,0⟩) hd ht hcW hfW hn (Able.new c hc) (Nat.zero_le _) (Holds.none hs hh (fun k _=>rfl))
end
end Go.Proofs.YtiahjipoofeliaaGreatDoor.sg

namespace Go.Proofs.YtiahjipoofeliaaGreatDoor.sg
open Go.ChangeShapes Go.WideShapes Go.ChangeAt Go.RowKit
open dk
section
variable {D E:DiskS} {R:RowS} {b:List UInt8} {c m:Nat} {head:ByteArray} {size:Nat}
def ReadIn (R:RowS) (k m:Int):Prop:=(R.start:Int)≤k∧k≤R.fin∧0≤m∧m≤R.fin-k∧(m=0∨m≤R.size-k%R.size)
theorem read_in (h:Holds D R b) (ha:Alive D) {k m:Int} (hi:ReadIn R k m):readD D R k m=(bA ((b.drop (k-R.start).toNat).take m.toNat),0):=by
 obtain⟨h1,h2,h3,h4,h5⟩:=hi
 obtain⟨k,rfl⟩:∃q:Nat,k=q:=⟨k.toNat,by omega⟩
 obtain⟨m,rfl⟩:∃q:Nat,m=q:=⟨m.toNat,by omega⟩
 have hz:=h.ok.size
 have hml:=Nat.mod_lt k (show 0<R.size by omega)
 rw[h.read ha k m (by omega) (by omega) (by omega)]
 congr 4
 omega
theorem Tight.rest (h2:2≤R.cnt) (ht:Tight R):Tight R.rest:=by
 have hl:R.lastp<R.fin:=ht.resolve_left (by omega)
 right
 show R.start+R.size+(R.cnt-1-1) * R.size<R.fin
 have:R.lastp=R.start+(R.cnt-1) * R.size:=rfl
 obtain⟨q,hq⟩:∃q,R.cnt=q+2:=⟨R.cnt-2,by omega⟩
 rw[hq,show q+2-1=q+1 by omega,Nat.succ_mul]at this
 rw[hq,show q+2-1-1=q by omega]
 omega
end
end Go.Proofs.YtiahjipoofeliaaGreatDoor.sg

namespace Go.Proofs.YtiahjipoofeliaaGreatDoor.tp
open Go.RowKit
open rc oc sg
inductive Pc where
 | fill (n:Nat)
 | one (m:MsgS)
def Pc.list:Pc→List UInt8
 | .fill n=>(fillB n).data.toList
 | .one m=>(recB m).data.toList
def Pc.msg:Pc→MsgS
 | .fill n=>fillM n
 | .one m=>m
def Pc.len (p:Pc):Nat:=p.list.length
def Pc.Fit (at_:Nat) (p:Pc):Prop:=3≤p.len∧(at_%1024+p.len=1024∨at_%1024+p.len+3≤1024)∧match p with|.fill n=>3≤n∧n≤1024|.one m=>RightP m∧m.kind≠0
theorem fillB_size {n:Nat} (h:3≤n):(fillB n).size=n:=by show (_:List UInt8).toArray.size=_;simp [low_length];omega
theorem recB_size (m:MsgS):(recB m).size=7+(insideL m).length:=by
 have:=seal_length (insideL m)
 show (_:List UInt8).toArray.size=_;simp [low_length];omega
theorem recB_bounds {m:MsgS} (h:RightP m) (hk:m.kind≠0):7≤(recB m).size∧(recB m).size≤321:=by
 have:=inside_length (right_fits m h hk)
 rw[recB_size];omega
theorem Pc.len_fill {n:Nat} (h:3≤n):(Pc.fill n).len=n:=by
 show (fillB n).data.toList.length=n
 rw[size_toList,fillB_size h]
theorem Pc.len_one (m:MsgS):(Pc.one m).len=(recB m).size:=size_toList _
theorem Pc.ne_nil (p:Pc):p.list≠[]:=by
 cases p with
 | fill n=>unfold Pc.list fillB;simp
 | one m=>unfold Pc.list recB;simp
theorem Pc.get {p:Pc} {at_:Nat} (h:p.Fit at_) (r:List UInt8):getS RightP (bA (p.list++r))=(p.msg,(p.len:Int),0):=by
 cases p with
 | fill n =>
  obtain⟨_,_,h3,h4⟩:=h
  rw[Pc.len_fill h3]
  exact get_fill n h3 h4 r
 | one m =>
  obtain⟨_,_,h3,h4⟩:=h
  rw[Pc.len_one]
  exact get_rec right_fits h3 h4 r
def flat (l:List Pc):List UInt8:=l.flatMap Pc.list
def recs:Nat→List Pc→List (Nat×MsgS)
 | _,[]=>[]
 | a,.fill n :: t=>recs (a+(Pc.fill n).len) t
 | a,.one m :: t=>(a,m) :: recs (a+(Pc.one m).len) t
def FitL:Nat→List Pc→Prop
 | _,[]=>True
 | a,p :: t=>p.Fit a∧FitL (a+p.len) t
theorem flat_nil:flat []=[]:=rfl
theorem flat_cons (p:Pc) (t:List Pc):flat (p :: t)=p.list++flat t:=by unfold flat;rw[List.flatMap_cons]
theorem flat_append (s t:List Pc):flat (s++t)=flat s++flat t:=by unfold flat;rw[List.flatMap_append]
theorem flat_snoc (s:List Pc) (p:Pc):flat (s++[p])=flat s++p.list:=by rw[flat_append,flat_cons,flat_nil,List.append_nil]
theorem flat_len_cons (p:Pc) (t:List Pc):(flat (p :: t)).length=p.len+(flat t).length:=by rw[flat_cons,List.length_append];rfl
theorem recs_append:∀(s t:List Pc) (a:Nat),recs a (s++t)=recs a s++recs (a+(flat s).length) t
 | [],t,a=>by simp [recs,flat_nil]
 | .fill n :: s,t,a=>by
  show recs _ (s++t)=recs _ s++_
  rw[recs_append s t,flat_len_cons,Nat.add_assoc]
 | .one m :: s,t,a=>by
  show (a,m) :: recs _ (s++t)=(a,m) :: recs _ s++_
  rw[recs_append s t,flat_len_cons,Nat.add_assoc];rfl
theorem recs_fill (s:List Pc) (n a:Nat):recs a (s++[.fill n])=recs a s:=by rw[recs_append];simp [recs]
theorem recs_one (s:List Pc) (m:MsgS) (a:Nat):recs a (s++[.one m])=recs a s++[(a+(flat s).length,m)]:=by rw[recs_append];simp [recs]
theorem fitL_append:∀(s t:List Pc) (a:Nat),FitL a (s++t)↔FitL a s∧FitL (a+(flat s).length) t
 | [],t,a=>by simp [FitL,flat_nil]
 | p :: s,t,a=>by
  show p.Fit a∧FitL _ (s++t)↔(p.Fit a∧FitL _ s)∧_
  rw[fitL_append s t,flat_len_cons,Nat.add_assoc,and_assoc]
theorem fitL_snoc (s:List Pc) (p:Pc) (a:Nat):FitL a (s++[p])↔FitL a s∧p.Fit (a+(flat s).length):=by rw[fitL_append];simp [FitL]
theorem recs_range:∀(s:List Pc) (a:Nat),FitL a s→∀x∈recs a s,a≤x.1∧x.1+(recB x.2).size≤a+(flat s).length∧RightP x.2∧x.2.kind≠0∧x.1%1024+(recB x.2).size≤1024
 | [],a,_,x,hx=>by cases hx
 | .fill n :: s,a,h,x,hx=>by
  obtain⟨h1,h2,h3⟩:=recs_range s _ h.2 x hx
  rw[flat_len_cons]
  exact⟨by omega,by omega,h3⟩
 | .one m :: s,a,h,x,hx=>by
  rw[flat_len_cons,Pc.len_one]
  rcases List.mem_cons.1 hx with rfl|hx
  ·obtain⟨_,h2,h3,h4⟩:=h.1
   rw[Pc.len_one]at h2
   simp only
   refine⟨Nat.le_refl _,by omega,h3,h4,by omega⟩
  ·have:=recs_range s _ h.2 x hx
   rw[Pc.len_one]at this
   refine⟨by omega,by omega,this.2.2⟩
theorem recs_rise:∀(s:List Pc) (a:Nat),FitL a s→(recs a s).Pairwise (fun x y=>x.1<y.1)
 | [],a,_=>List.Pairwise.nil
 | .fill n :: s,a,h=>recs_rise s _ h.2
 | .one m :: s,a,h=>by
  refine List.Pairwise.cons (fun y hy=>?_) (recs_rise s _ h.2)
  have h1:=recs_range s _ h.2 y hy
  have:=h.1.1
  show a<y.1
  omega
theorem drop_past (l m:List UInt8) (i:Nat) (h:l.length≤i):(l++m).drop i=m.drop (i-l.length):=by rw[List.drop_append,List.drop_of_length_le h,List.nil_append]
theorem recs_bytes:∀(s:List Pc) (a:Nat),FitL a s→∀x∈recs a s,∃r,(flat s).drop (x.1-a)=(recB x.2).data.toList++r
 | [],a,_,x,hx=>by cases hx
 | .fill n :: s,a,h,x,hx=>by
  obtain⟨r,hr⟩:=recs_bytes s _ h.2 x hx
  have h1:=recs_range s _ h.2 x hx
  refine⟨r,?_⟩
  rw[←hr,flat_cons,drop_past _ _ _ (show (Pc.fill n).len≤_ by omega)]
  congr 1
  show _-(Pc.fill n).len=_
  omega
 | .one m :: s,a,h,x,hx=>by
  rcases List.mem_cons.1 hx with rfl|hx
  ·exact⟨flat s,by rw[Nat.sub_self,List.drop_zero,flat_cons];rfl⟩
  ·obtain⟨r,hr⟩:=recs_bytes s _ h.2 x hx
   have h1:=recs_range s _ h.2 x hx
   refine⟨r,?_⟩
   rw[←hr,flat_cons,drop_past _ _ _ (show (Pc.one m).len≤_ by omega)]
   congr 1
   show _-(Pc.one m).len=_
   omega
theorem fit_end:∀(s:List Pc) (a:Nat),FitL a s→(a%1024=0∨a%1024+3≤1024)→((a+(flat s).length)%1024=0∨(a+(flat s).length)%1024+3≤1024)
 | [],a,_,h=>h
 | p :: s,a,h,h0=>by
  rw[flat_len_cons,←Nat.add_assoc]
  refine fit_end s _ h.2 ?_
  have:=h.1.2.1
  have:=h.1.1
  omega
def roomAt (e:Nat):Nat:=1024-e%1024
def goesIn (e n:Nat):Prop:=n=roomAt e∨n+3≤roomAt e
instance (e n:Nat):Decidable (goesIn e n):=by unfold goesIn;exact inferInstance
def laidP (e:Nat) (m:MsgS):List Pc:=if goesIn e (recB m).size then [.one m] else [.fill (roomAt e),.one m]
def okM (m:MsgS):Prop:=RightP m∧m.kind≠0
instance (m:MsgS):Decidable (okM m):=by unfold okM;exact inferInstance
def costP (e:Nat) (m:MsgS):Nat:=if okM m then (flat (laidP e m)).length else 0
theorem one_fit {e:Nat} {m:MsgS} (h:okM m) (hg:goesIn e (recB m).size):(Pc.one m).Fit e:=by
 have h1:=recB_bounds h.1 h.2
 refine⟨?_,?_,h.1,h.2⟩
 ·rw[Pc.len_one];omega
 ·rw[Pc.len_one]
  unfold goesIn roomAt at hg
  omega
theorem fill_fit {e:Nat} (h:e%1024=0∨e%1024+3≤1024):(Pc.fill (roomAt e)).Fit e:=by
 unfold roomAt
 refine⟨?_,?_,?_,?_⟩
 ·rw[Pc.len_fill (by omega)];omega
 ·rw[Pc.len_fill (by omega)];omega
 ·omega
 ·omega
theorem behind_fill (e:Nat):(e+roomAt e)%1024=0:=by unfold roomAt;omega
theorem one_fresh {e:Nat} {m:MsgS} (h:okM m) (he:e%1024=0):goesIn e (recB m).size:=by
 have h1:=recB_bounds h.1 h.2
 unfold goesIn roomAt
 omega
theorem laid_len {e:Nat} {m:MsgS} (he:e%1024=0∨e%1024+3≤1024):(flat (laidP e m)).length=if goesIn e (recB m).size then (recB m).size else roomAt e+(recB m).size:=by
 unfold laidP
 split
 ·rw[flat_len_cons,flat_nil,Pc.len_one];rfl
 ·rw[flat_len_cons,flat_len_cons,flat_nil,Pc.len_one,Pc.len_fill (by unfold roomAt;omega)];rfl
def idP (e:Nat) (m:MsgS):Nat:=if goesIn e (recB m).size then e else e+roomAt e
theorem laid_recs {e:Nat} {m:MsgS} (he:e%1024=0∨e%1024+3≤1024):recs e (laidP e m)=[(idP e m,m)]:=by
 unfold laidP idP
 split
 ·rfl
 ·show [(e+(Pc.fill (roomAt e)).len,m)]=_
  rw[Pc.len_fill (by unfold roomAt;omega)]
def restOf (a:Nat) (b:List UInt8):List UInt8:=b.take (roomAt a)
def NoPc (a:Nat) (b:List UInt8):Prop:=b=[]∨(getS RightP (bA (restOf a b))).2.2≠0
theorem rest_piece {a:Nat} {p:Pc} (h:p.Fit a) (r:List UInt8):∃r',restOf a (p.list++r)=p.list++r':=by
 unfold restOf
 rw[List.take_append]
 have h1:=h.2.1
 have h2:p.list.length≤roomAt a:=by show p.len≤_;unfold roomAt;omega
 rw[List.take_of_length_le h2]
 exact⟨_,rfl⟩
theorem rest_get {a:Nat} {p:Pc} (h:p.Fit a) (r:List UInt8):getS RightP (bA (restOf a (p.list++r)))=(p.msg,(p.len:Int),0):=by
 obtain⟨r',hr⟩:=rest_piece h r
 rw[hr]
 exact Pc.get h r'
section
variable {D:dk.DiskS} {R:RowS} {b:List UInt8} {ps:List Pc}
open dk
theorem read_rec (hH:Holds D R (flat ps)) (ha:Alive D) (hf:FitL R.start ps) (hz:R.size=1024) {x:Nat×MsgS} (hx:x∈recs R.start ps):readD D R (x.1:Int) ((recB x.2).size:Int)=(recB x.2,0):=by
 obtain⟨h1,h2,h3,h4,h5⟩:=recs_range ps _ hf x hx
 obtain⟨r,hr⟩:=recs_bytes ps _ hf x hx
 have hs:=hH.size
 rw[read_in hH ha (show ReadIn R (x.1:Int) ((recB x.2).size:Int) from ⟨by omega,by omega,by omega,by omega,.inr (by rw[hz];omega)⟩)]
 have e:((x.1:Int)-(R.start:Int)).toNat=x.1-R.start:=by omega
 rw[e,hr,Int.toNat_natCast]
 congr 1
 refine ba_ext ?_
 rw[bA_list,List.take_append_of_le_length (by rw[size_toList];exact Nat.le_refl _),List.take_of_length_le (by rw[size_toList];exact Nat.le_refl _)]
theorem rec_get {m:MsgS} (h:okM m):getS RightP (recB m)=(m,((recB m).size:Int),0):=by
 have:=get_rec right_fits h.1 h.2 []
 rw[List.append_nil]at this
 exact this
theorem read_rest (hH:Holds D R b) (ha:Alive D) (hz:R.size=1024) {a:Nat} (h1:R.start≤a) (h2:a<R.fin):readD D R (a:Int) (R.left (a:Int):Int)=(bA (restOf a (b.drop (a-R.start))),0)∧0<R.left (a:Int):=by
 have hs:=hH.size
 have hl:R.left (a:Int)=min (roomAt a) (R.fin-a):=by
  unfold RowS.left roomAt
  rw[if_neg (by omega),Int.toNat_natCast,hz]
  have:=Nat.div_add_mod a 1024
  have:=Nat.mod_lt a (show 0<1024 by decide)
  omega
 have hr0:0<roomAt a:=by unfold roomAt;omega
 rw[hl]
 refine⟨?_,by omega⟩
 rw[read_in hH ha (show ReadIn R (a:Int) ((min (roomAt a) (R.fin-a):Nat):Int) from ⟨by omega,by omega,by omega,by omega,.inr (by rw[hz];unfold roomAt;omega)⟩)]
 have e:((a:Int)-(R.start:Int)).toNat=a-R.start:=by omega
 rw[e,Int.toNat_natCast]
 congr 2
 unfold restOf
 have hlen:(b.drop (a-R.start)).length=R.fin-a:=by rw[List.length_drop];omega
 by_cases h:roomAt a≤R.fin-a
 ·rw[Nat.min_eq_left h]
 ·rw[Nat.min_eq_right (by omega),List.take_of_length_le (by omega),List.take_of_length_le (by omega)]
end
end Go.Proofs.YtiahjipoofeliaaGreatDoor.tp

namespace Go.Proofs.YtiahjipoofeliaaGreatDoor.rc
open Go.ChangeShapes Go.WideShapes Go.ChangeAt Go.RowKit Go.Shelf
open nm vs
theorem repeat_zero:∀n:Nat,Lib.repeatL [0] n=List.replicate n 0
 | 0=>rfl
 | n+1=>by rw[Lib.repeatL,repeat_zero n,List.replicate_succ];rfl
theorem noughts_any (n:Nat) (w:World) (hn:n≤140737488355328):Calls Tryz.prog 122 #[.int .i64 n] w fun e w'=>e=.returned (.string (zerosB n))∧Calm w w':=by
 have H:=box (Tryz.strings_Repeat ⟨#[0]⟩ n w (by omega) (by show 1 * n≤_;omega))
 rw[show (⟨#[0]⟩:ByteArray).data.toList=[0] from rfl,repeat_zero]at H
 go_enter Tryz.func122,Tryz.ntmps122
 go_wp2_with fail
 refine H.out.mono ?_
 rintro e w1 ⟨rfl,hc⟩
 have Hc:=box hc
 clear hc
 go_wp2_with fail
 go_ret
 exact⟨rfl,Hc.out⟩
theorem right4 {q du rt rf bn:Int} {tp tg bd:ByteArray} {ks:List ByteArray} (hn:numsB ⟨4,q,du,rt,rf,bn,tp,tg,bd,ks⟩=true):RightP ⟨4,q,du,rt,rf,bn,tp,tg,bd,ks⟩↔(⟨4,q,du,rt,rf,bn,tp,tg,bd,ks⟩:MsgS)=⟨4,0,0,0,rf,bn,⟨#[]⟩,⟨#[]⟩,⟨#[]⟩,[]⟩:=by
 rw[MsgS.eq_iff]
 unfold RightP
 simp only
 have hz:∀b:ByteArray,b.size=0↔b=⟨#[]⟩:=fun b=>⟨fun h=>ba_ext (List.eq_nil_of_length_eq_zero (by rw[size_toList];exact h)),fun h=>by rw[h];rfl⟩
 simp only[hz,List.length_eq_zero_iff]
 constructor
 ·rintro⟨_,⟨h,_⟩|⟨h,_⟩|⟨⟨h1,h2,h3,h4,h5,h6⟩,⟨_,h7⟩|⟨h,_⟩⟩⟩
  ·omega
  ·omega
  ·exact⟨trivial,h1,h3,h2,trivial,trivial,h4,h5,h7,h6⟩
  ·omega
 ·rintro⟨_,h1,h3,h2,_,_,h4,h5,h7,h6⟩
  exact⟨hn,.inr (.inr ⟨⟨h1,h2,h3,h4,h5,h6⟩,.inl ⟨trivial,h7⟩⟩)⟩
theorem right0 {q du rt rf bn:Int} {tp tg bd:ByteArray} {ks:List ByteArray} (hn:numsB ⟨0,q,du,rt,rf,bn,tp,tg,bd,ks⟩=true):RightP ⟨0,q,du,rt,rf,bn,tp,tg,bd,ks⟩↔bd.size≤1024∧bd=zerosB bd.size∧(⟨0,q,du,rt,rf,bn,tp,tg,bd,ks⟩:MsgS)=⟨0,0,0,0,0,0,⟨#[]⟩,⟨#[]⟩,bd,[]⟩:=by
 rw[MsgS.eq_iff,zeros_iff]
 unfold RightP
 simp only
 have hz:∀b:ByteArray,b.size=0↔b=⟨#[]⟩:=fun b=>⟨fun h=>ba_ext (List.eq_nil_of_length_eq_zero (by rw[size_toList];exact h)),fun h=>by rw[h];rfl⟩
 simp only[hz,List.length_eq_zero_iff]
 constructor
 ·rintro⟨_,⟨h,_⟩|⟨h,_⟩|⟨⟨h1,h2,h3,h4,h5,h6⟩,⟨h,_⟩|⟨_,h7,h8,h9,h10⟩⟩⟩
  ·omega
  ·omega
  ·omega
  ·exact⟨h9,h10,trivial,h1,h3,h2,h7,h8,h4,h5,trivial,h6⟩
 ·rintro⟨h9,h10,_,h1,h3,h2,h7,h8,h4,h5,_,h6⟩
  exact⟨hn,.inr (.inr ⟨⟨h1,h2,h3,h4,h5,h6⟩,.inr ⟨trivial,h7,h8,h9,h10⟩⟩)⟩
set_option maxHeartbeats 8000000 in
theorem Right_other (m:MsgS) (kv:Value) (w:World) (hk:StrsAt w kv m.keys) (hl:m.keys.length≤1000000) (hz:m.body.size≤140737488355328) (h3:m.kind≠1∧m.kind≠2∧m.kind≠3) :
  Calls Tryz.prog 156 #[.agg (msgA m kv)] w fun e w'=>e=.returned (.bool (decide (RightP m)))∧Calm w w':=by
 have hsame:=box (fun (b:MsgS) (kb:Value) W (hW:Calm w W) (hb:StrsAt W kb b.keys) (lb:b.keys.length≤1000000)=>Same_any m b kv kb W (hk.calm hW) hb hl lb)
 obtain⟨kd,q,du,rt,rf,bn,tp,tg,bd,ks⟩:=m
 simp only at hk hl h3 hz
 obtain⟨h31,h32,h33⟩:=h3
 obtain⟨r,hr⟩:∃r,decide (RightP ⟨kd,q,du,rt,rf,bn,tp,tg,bd,ks⟩)=r:=⟨_,rfl⟩
 rw[hr]
 have Hr:=box hr
 clear hr
 obtain⟨ka,kcap,rfl,_⟩:=hk.uni
 obtain⟨W1,hW1⟩:∃W1,w.alloc (.cells (msgA ⟨kd,q,du,rt,rf,bn,tp,tg,bd,ks⟩ (.slice ka ks.length kcap)) 63)=W1:=⟨_,rfl⟩
 obtain⟨W2,hW2⟩:∃W2,W1.alloc (.cells #[.int .i64 du,.int .i64 rf,.int .i64 bn] 3)=W2:=⟨_,rfl⟩
 have Hn:=box (show W1.heap[w.heap.size]? = some (.cells (msgA ⟨kd,q,du,rt,rf,bn,tp,tg,bd,ks⟩ (.slice ka ks.length kcap)) 63 (0,0)) by rw[←hW1];exact heap_new w _)
 have H0:=box (show Calm w W1 by rw[←hW1];exact(Calm.refl w).alloc _)
 have H1:=box (show Calm W1 W2 by rw[←hW2];exact(Calm.refl W1).alloc _)
 have hnum:=box (nums_any W1.heap.size du rf bn W2 (by rw[←hW2];exact heap_new W1 _))
 have H2:=box (heap_calm H1.out Hn.out)
 clear hk hl
 have c2:=cell_of Hn.out 2
 have c4:=cell_of Hn.out 4
 have c5:=cell_of Hn.out 5
 have hlt:=heap_lt Hn.out
 go_enter Tryz.func156,Tryz.ntmps156
 go_wp2_with fail
 clear hW1 hW2 c2 c4 c5 hlt
 refine hnum.out.mono ?_
 rintro e w1 ⟨rfl,hc1⟩
 have C1:=box (H0.out.trans (H1.out.trans hc1))
 have J1:=box (heap_calm hc1 H2.out)
 clear hc1
 have c0:=cell_of J1.out 0
 have c1:=cell_of J1.out 1
 have c2:=cell_of J1.out 2
 have c3:=cell_of J1.out 3
 have c4:=cell_of J1.out 4
 have c5:=cell_of J1.out 5
 have c6:=cell_of J1.out 6
 have c7:=cell_of J1.out 7
 have c8:=cell_of J1.out 8
 have c9:=cell_of J1.out 9
 have hlt:=heap_lt J1.out
 cases hnb:(numB du && numB rf && numB bn)
 ·go_wp2_with fail
  go_ret
  exact⟨ret_bool (not_true_of Hr (fun h=>by have:=h.1;unfold numsB at this;simp only at this;rw[hnb]at this;cases this)),C1.out⟩
 have Hnb:=box (show numsB ⟨kd,q,du,rt,rf,bn,tp,tg,bd,ks⟩=true from hnb)
 clear hnb
 by_cases h4:kd=4
 ·subst h4
  have hsam:=box (hsame.out ⟨4,0,0,0,rf,bn,⟨#[]⟩,⟨#[]⟩,⟨#[]⟩,[]⟩ (.slice none 0 0) w1 C1.out (.inl ⟨rfl,none,0,rfl⟩) (by simp))
  rw[decide_eq_decide.2 (right4 Hnb.out).symm,Hr.out]at hsam
  go_wp2_with fail
  refine hsam.out.mono ?_
  rintro e w2 ⟨rfl,hc2⟩
  have C2:=box (C1.out.trans hc2)
  clear hc2
  go_wp2_with fail
  go_ret
  exact⟨rfl,C2.out⟩
 have e1:(kd==1)=false:=beq_eq_false_iff_ne.2 h31
 have e2:(kd==2)=false:=beq_eq_false_iff_ne.2 h32
 have e3:(kd==3)=false:=beq_eq_false_iff_ne.2 h33
 have e4:(kd==4)=false:=beq_eq_false_iff_ne.2 h4
 by_cases h0:kd=0
 ·subst h0
  by_cases h1024:1024<bd.size
  ·have ht:decide ((bd.size:Int)≤1024)=false:=decide_eq_false (by omega)
   go_wp2_with (first|go_quiet (fail)|fail)
   go_wp2_with fail
   go_ret
   exact⟨ret_bool (not_true_of Hr (fun h=>by have:=((right0 Hnb.out).1 h).1;omega)),C1.out.drewN _⟩
  have ht:decide ((bd.size:Int)≤1024)=true:=decide_eq_true (by omega)
  by_cases hzz:bd=zerosB bd.size
  ·have hze:(bd.toList==(zerosB bd.size).toList)=true:=by rw[←hzz];simp
   have hsam:=box (fun (W:World) (hW:Calm w W)=>hsame.out ⟨0,0,0,0,0,0,⟨#[]⟩,⟨#[]⟩,bd,[]⟩ (.slice none 0 0) W hW (.inl ⟨rfl,none,0,rfl⟩) (by simp))
   have hiff:decide ((⟨0,q,du,rt,rf,bn,tp,tg,bd,ks⟩:MsgS)=⟨0,0,0,0,0,0,⟨#[]⟩,⟨#[]⟩,bd,[]⟩)=r:=by
    rw[←Hr.out]
    exact decide_eq_decide.2 ⟨fun h=>(right0 Hnb.out).2 ⟨by omega,hzz,h⟩,fun h=>((right0 Hnb.out).1 h).2.2⟩
   rw[hiff]at hsam
   clear hiff hzz h1024
   go_wp2_with fail
   refine wp_region_held_drew (S:=fun w'=>w'.cell? ⟨w.heap.size,0,none⟩=some (.int .i64 0)∧w'.cell? ⟨w.heap.size,1,none⟩=some (.int .i64 q)∧w'.cell? ⟨w.heap.size,2,none⟩=some (.int .i64 du)∧w'.cell? ⟨w.heap.size,3,none⟩=some (.int .i64 rt)∧w'.cell? ⟨w.heap.size,4,none⟩=some (.int .i64 rf)∧w'.cell? ⟨w.heap.size,5,none⟩=some (.int .i64 bn)∧w'.cell? ⟨w.heap.size,6,none⟩=some (.string tp)∧w'.cell? ⟨w.heap.size,7,none⟩=some (.string tg)∧w'.cell? ⟨w.heap.size,8,none⟩=some (.string bd)∧w'.cell? ⟨w.heap.size,9,none⟩=some (.slice ka ks.length kcap)) (by kernel_rfl) (by go_keep) (fun hHeld=>?_)
   (refine tk 0 ?_;refine tk 1 ?_;refine tk 2 ?_;refine tk 3 ?_;refine tk 4 ?_;refine tk 5 ?_;refine tk 6 ?_;refine tk 7 ?_;refine tk 8 ?_;refine tk 9 ?_)
   refine wpAnyH_ready (rs:=[10]) (by kernel_rfl) (by simp) ?_
   refine AllReadyH.cons rfl (fun K hK=>?_) AllReadyH.nil
   rw[if_pos (by rfl)]
   go_simp
   refine(noughts_any bd.size _ hz).mono ?_
   rintro e w2 ⟨rfl,hb⟩
   go_wp2_with fail
   have J2:=box (heap_calm hb J1.out)
   have C2:=box (C1.out.trans ((show Calm w1 _ by exact cm).trans hb))
   refine hK.out _ _ ⟨cell_of J2.out 0,cell_of J2.out 1,cell_of J2.out 2,cell_of J2.out 3,cell_of J2.out 4,cell_of J2.out 5,cell_of J2.out 6,cell_of J2.out 7,cell_of J2.out 8,cell_of J2.out 9⟩ (fun hHeld2=>?_)
   clear hK K hb
   try simp only[List.getElem_toArray,List.getElem_cons_succ,List.getElem_cons_zero,Act.put,List.setIfInBounds_toArray,List.set_cons_zero,List.set_cons_succ]
   (refine tk 11 ?_;refine tk 12 ?_;refine tk 13 ?_;refine tk 14 ?_;refine tk 15 ?_;refine tk 16 ?_;refine tk 17 ?_)
   refine wpAnyH_ready (rs:=[18]) (by kernel_rfl) (by simp) ?_
   refine AllReadyH.cons rfl (fun K hK=>?_) AllReadyH.nil
   rw[if_pos (by rfl)]
   go_simp
   refine(hsam.out _ C2.out).mono ?_
   rintro e w3 ⟨rfl,hb⟩
   go_wp2_with fail
   have J3:=box (heap_calm hb J2.out)
   have C3:=box (C2.out.trans hb)
   refine hK.out _ _ ⟨cell_of J3.out 0,cell_of J3.out 1,cell_of J3.out 2,cell_of J3.out 3,cell_of J3.out 4,cell_of J3.out 5,cell_of J3.out 6,cell_of J3.out 7,cell_of J3.out 8,cell_of J3.out 9⟩ (fun hHeld3=>?_)
   clear hK K hb
   try simp only[List.getElem_toArray,List.getElem_cons_succ,List.getElem_cons_zero,Act.put,List.setIfInBounds_toArray,List.set_cons_zero,List.set_cons_succ]
   (refine tk 19 ?_;refine tk 20 ?_)
   refine wpAnyH_done (by kernel_rfl) ?_ _
   go_wp2_with fail
   go_ret
   exact⟨rfl,C3.out⟩
  ·have hze:(bd.toList==(zerosB bd.size).toList)=false:=beq_eq_false_iff_ne.2 (fun e=>hzz (ba_ext (by rw[←Lib.toList_data,←Lib.toList_data];exact e)))
   go_wp2_with fail
   refine wp_region_held_drew (S:=fun w'=>w'.cell? ⟨w.heap.size,0,none⟩=some (.int .i64 0)∧w'.cell? ⟨w.heap.size,1,none⟩=some (.int .i64 q)∧w'.cell? ⟨w.heap.size,2,none⟩=some (.int .i64 du)∧w'.cell? ⟨w.heap.size,3,none⟩=some (.int .i64 rt)∧w'.cell? ⟨w.heap.size,4,none⟩=some (.int .i64 rf)∧w'.cell? ⟨w.heap.size,5,none⟩=some (.int .i64 bn)∧w'.cell? ⟨w.heap.size,6,none⟩=some (.string tp)∧w'.cell? ⟨w.heap.size,7,none⟩=some (.string tg)∧w'.cell? ⟨w.heap.size,8,none⟩=some (.string bd)∧w'.cell? ⟨w.heap.size,9,none⟩=some (.slice ka ks.length kcap)) (by kernel_rfl) (by go_keep) (fun hHeld=>?_)
   (refine tk 0 ?_;refine tk 1 ?_;refine tk 2 ?_;refine tk 3 ?_;refine tk 4 ?_;refine tk 5 ?_;refine tk 6 ?_;refine tk 7 ?_;refine tk 8 ?_;refine tk 9 ?_)
   refine wpAnyH_ready (rs:=[10]) (by kernel_rfl) (by simp) ?_
   refine AllReadyH.cons rfl (fun K hK=>?_) AllReadyH.nil
   rw[if_pos (by rfl)]
   go_simp
   refine(noughts_any bd.size _ hz).mono ?_
   rintro e w2 ⟨rfl,hb⟩
   go_wp2_with fail
   have J2:=box (heap_calm hb J1.out)
   have C2:=box (C1.out.trans ((show Calm w1 _ by exact cm).trans hb))
   refine hK.out _ _ ⟨cell_of J2.out 0,cell_of J2.out 1,cell_of J2.out 2,cell_of J2.out 3,cell_of J2.out 4,cell_of J2.out 5,cell_of J2.out 6,cell_of J2.out 7,cell_of J2.out 8,cell_of J2.out 9⟩ (fun hHeld2=>?_)
   clear hK K hb
   try simp only[List.getElem_toArray,List.getElem_cons_succ,List.getElem_cons_zero,Act.put,List.setIfInBounds_toArray,List.set_cons_zero,List.set_cons_succ]
   (refine tk 11 ?_;refine tk 12 ?_;refine tk 13 ?_)
   (refine sk 14 ?_;refine sk 15 ?_;refine sk 16 ?_;refine sk 17 ?_;refine sk 18 ?_)
   (refine tk 19 ?_;refine tk 20 ?_)
   refine wpAnyH_done (by kernel_rfl) ?_ _
   go_wp2_with fail
   go_ret
   exact⟨ret_bool (not_true_of Hr (fun h=>hzz ((right0 Hnb.out).1 h).2.1)),C2.out⟩
 ·have e0:(kd==0)=false:=beq_eq_false_iff_ne.2 h0
  go_wp2_with fail
  go_ret
  exact⟨ret_bool (not_true_of Hr (fun h=>by
   obtain⟨_,⟨h,_⟩|⟨h,_⟩|⟨_,⟨h,_⟩|⟨h,_⟩⟩⟩:=h
   all_goals simp only at h;omega)),C1.out⟩
end Go.Proofs.YtiahjipoofeliaaGreatDoor.rc

namespace Go.Proofs.YtiahjipoofeliaaGreatDoor.oc
open Go.ChangeShapes Go.WideShapes Go.ChangeAt Go.RowKit
set_option maxHeartbeats 4000000 in
theorem Text_any (v:Value) (l:List ByteArray) (w:World) (h:StrsAt w v l) (hl:l.length≤1000000) (hi:∀s∈l,s.size≤maxLen) :
  Calls Tryz.prog 192 #[v] w fun e w'=>e=.returned (.tuple #[.string (textsB l).1,.int .i64 (textsB l).2])∧Calm w w':=by
 obtain⟨a,cap,rfl,hcells⟩:=h.uni
 have H:=box hcells
 have Hi:=box hi
 have hr:=box (show textsB l=if l.all shortB then (⟨(textsL l).toArray⟩,0) else (⟨#[]⟩,6) from rfl)
 clear h hi hcells
 go_enter Tryz.func192,Tryz.ntmps192
 go_wp2_with fail
 go_loopw [9] (fun i wr=>∃k:Nat,k≤l.length∧i=.int .i64 k∧(l.take k).all shortB=true∧Lib.IsBuilder BT 5 w.heap.size w.heap.size (Lib.byteCells (textsL (l.take k))) wr∧Calm w wr) (fun i _=>l.length-(intOf i).toNat)
 case atStart =>
  exact⟨0,Nat.zero_le _,rfl,rfl,.inl ⟨Nat.le_refl _,.slice none 0 0,heap_new w _,World.ownsRow_nil _ _ _ _,by simp [Value.ownBlock]⟩,(Calm.refl w).alloc _⟩
 case round =>
  obtain⟨k,hk,rfl,hall,hB,hC⟩:=hrel
  have Hall:=box hall
  have HB:=box hB
  have HC:=box hC
  clear hall hB hC
  by_cases hlt:k<l.length
  ·obtain⟨b,off,rfl,hb,hcell0⟩:=H.out k hlt
   have hcell:=(HC.out.cell (p:=⟨b,off+k,none⟩) hb).trans hcell0
   have hblt:=Nat.lt_of_lt_of_le hb HC.out.size
   rw[List.getD_eq_getElem?_getD,List.getElem?_eq_getElem hlt]at hcell
   simp only[Option.getD_some]at hcell
   have hsz:=Hi.out l[k] (List.getElem_mem hlt)
   have hsn:=box (textsL_snoc l k hlt)
   have has:=box (show (l.take (k+1)).all shortB=((l.take k).all shortB && shortB l[k]) by rw[List.take_succ_eq_append_getElem hlt,List.all_append];simp)
   have hno:=box (show shortB l[k]=false→textsB l=(⟨#[]⟩,6) from fun hf=>by
    rw[hr.out,if_neg]
    rw[List.all_eq_true]
    intro hh
    have:=hh l[k] (List.getElem_mem hlt)
    rw[hf]at this
    cases this)
   have hlen:=box (textsL_length (l.take k) Hall.out)
   obtain⟨s,hs⟩:∃s,l[k]=s:=⟨_,rfl⟩
   rw[hs]at hcell hsn has hno hsz
   unfold maxLen at hsz
   clear hs hcell0
   by_cases hbig:65535<s.size
   ·have hno:=box (hno.out (decide_eq_false (by omega)))
    go_wp2_with fail
    go_ret2
    exact⟨ret_tup2 (by rw[hno.out];rfl) (by rw[hno.out];rfl),HC.out⟩
   ·have hsh:shortB s=true:=decide_eq_true (by omega)
    have hcat:=box (show (⟨(low 2 s.size).toArray⟩:ByteArray)++s=⟨(textL s).toArray⟩ from ba_ext (by rw[append_toList];rfl))
    have z2:(⟨(low 2 s.size).toArray⟩:ByteArray).size=2:=low_size 2 s.size
    have hput:=box (fun W=>put_any 2 s.size W (by decide) (by omega))
    obtain⟨u,hu⟩:∃u:ByteArray,⟨(low 2 s.size).toArray⟩=u:=⟨_,rfl⟩
    rw[hu]at hcat z2 hput
    have has:=box (show (l.take (k+1)).all shortB=true by rw[has.out,Hall.out,hsh];rfl)
    clear hu hsh
    go_wp2_with fail
    refine(hput.out _).mono ?_
    rintro e w2 ⟨rfl,hc2⟩
    have HB2:=box (HB.out.calm' hc2)
    have HC2:=box (HC.out.trans hc2)
    clear hc2
    go_wp2_with fail
    rw[hcat.out]
    have hroom:(Lib.byteCells (textsL (l.take k))).length+(⟨(textL s).toArray⟩:ByteArray).size≤140737488355328:=by
     have h1:=hlen.out
     rw[List.length_take]at h1
     have h3:min k l.length * 65537≤1000000 * 65537:=Nat.mul_le_mul (by omega) (by omega)
     have h4:(⟨(textL s).toArray⟩:ByteArray).size=2+s.size:=by show (textL s).toArray.size=_;simp [textL_length]
     rw[h4,Lib.byteCells_length]
     omega
    refine(WriteString_any w.heap.size w.heap.size _ ⟨(textL s).toArray⟩ _ HB2.out hroom (by exact HC2.out.size)).mono ?_
    rintro e w3 ⟨rfl,hb3,hc3⟩
    have HB3:=box hb3
    have HC3:=box (Below.trans HC2.out hc3)
    clear hb3 hc3
    go_wp2_with fail
    go_roundw
    case rel =>
     refine⟨k+1,by omega,by go_num,has.out,?_,HC3.out⟩
     rw[hsn.out,Lib.byteCells_append]
     exact .inr HB3.out
    case measure=>simp [intOf];omega
  ·obtain rfl:k=l.length:=by omega
   have hr:=box (show textsB l=(⟨(textsL l).toArray⟩,0) by
    have:=Hall.out
    rw[List.take_length]at this
    rw[hr.out,if_pos this])
   have HB:=box (show Lib.IsBuilder BT 5 w.heap.size w.heap.size (Lib.byteCells (textsL l)) wr by have:=HB.out;rw[List.take_length]at this;exact this)
   go_wp2_with fail
   refine(Tryz.Builder_String_any w.heap.size w.heap.size _ wr HB.out (by exact HC.out.size)).mono ?_
   rintro e w2 ⟨rfl,hc2⟩
   have HC2:=box (Below.trans HC.out hc2)
   clear hc2
   go_wp2_with fail
   go_ret2
   exact⟨ret_tup2 (by rw[hr.out];rfl) (by rw[hr.out];rfl),HC2.out⟩
theorem OList_any (v:Value) (l:List ByteArray) (w:World) (h:StrsAt w v l) (hl:l.length≤1000000) (hi:∀s∈l,s.size≤maxLen) :
  Calls Tryz.prog 193 #[v] w fun e w'=>e=.returned (.tuple #[.string (listB l).1,.int .i64 (listB l).2])∧Calm w w':=by
 have ht:=box (Text_any v l w h hl hi)
 obtain⟨a,cap,rfl,_⟩:=h.uni
 clear h hi
 by_cases h255:255<l.length
 ·have hr:=box (show listB l=(⟨#[]⟩,6) by unfold listB;rw[if_pos h255])
  rw[hr.out]
  go_enter Tryz.func193,Tryz.ntmps193
  go_wp2_with fail
  go_ret2
  exact⟨rfl,Calm.refl _⟩
 ·cases hsh:l.all shortB
  ·have hr:=box (show listB l=(⟨#[]⟩,6) by unfold listB;rw[if_neg h255,hsh];rfl)
   have ht2:=box (show textsB l=(⟨#[]⟩,6) by unfold textsB;rw[hsh];rfl)
   rw[hr.out]
   rw[ht2.out]at ht
   go_enter Tryz.func193,Tryz.ntmps193
   go_wp2_with fail
   refine ht.out.mono ?_
   rintro e w2 ⟨rfl,hc2⟩
   have C2:=box hc2
   clear hc2
   go_wp2_with fail
   go_ret2
   exact⟨rfl,C2.out⟩
  ·have hr:=box (show listB l=(⟨(low 1 l.length++textsL l).toArray⟩,0) by unfold listB;rw[if_neg h255,hsh];rfl)
   have ht2:=box (show textsB l=(⟨(textsL l).toArray⟩,0) by unfold textsB;rw[hsh];rfl)
   have hlen:=textsL_length l hsh
   have z1:(⟨(textsL l).toArray⟩:ByteArray).size≤16711935:=by show (textsL l).toArray.size≤_;simp only[List.size_toArray];have:l.length * 65537≤255 * 65537:=Nat.mul_le_mul (by omega) (by omega);omega
   have z2:(⟨(low 1 l.length).toArray⟩:ByteArray).size=1:=low_size 1 l.length
   have hcat:=box (show (⟨(low 1 l.length).toArray⟩:ByteArray)++⟨(textsL l).toArray⟩=⟨(low 1 l.length++textsL l).toArray⟩ from ba_ext (by rw[append_toList]))
   have hput:=box (fun W=>put_any 1 l.length W (by decide) (by omega))
   obtain⟨u,hu⟩:∃u:ByteArray,⟨(low 1 l.length).toArray⟩=u:=⟨_,rfl⟩
   obtain⟨t,htt⟩:∃t:ByteArray,⟨(textsL l).toArray⟩=t:=⟨_,rfl⟩
   rw[hr.out]
   rw[ht2.out]at ht
   rw[hu]at hcat z2 hput
   rw[htt]at hcat ht z1
   rw[←hcat.out]
   clear hu htt hlen hsh hcat hr ht2
   go_enter Tryz.func193,Tryz.ntmps193
   go_wp2_with fail
   refine ht.out.mono ?_
   rintro e w2 ⟨rfl,hc2⟩
   have C2:=box hc2
   clear hc2
   go_wp2_with fail
   refine(hput.out _).mono ?_
   rintro e w3 ⟨rfl,hc3⟩
   have C3:=box (C2.out.trans hc3)
   clear hc3
   go_wp2_with fail
   go_ret2
   exact⟨rfl,C3.out⟩
end Go.Proofs.YtiahjipoofeliaaGreatDoor.oc
