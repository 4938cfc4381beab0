/- Lemmas for this claim. -/
import Derived.Deep.CutRange
import Derived.Test.YtiahjipoofeliaaGreatDoorPk28
set_option maxRecDepth 100000
namespace Go.Proofs.YtiahjipoofeliaaGreatDoor.rc
open Go.ChangeShapes Go.WideShapes Go.ChangeAt Go.RowKit Go.Shelf
open nm vs oc cr
theorem rSeal_any (s:ByteArray) (w:World) (hs:s.size≤1000000) :
  Calls Tryz.prog 110 #[.string s] w fun e w'=>e=.returned (.string ⟨(sealL s.data.toList).toArray⟩)∧Calm w w':=by
 have hlt:=crcN_lt s.data.toList
 have hsum:=box (rSum_any s w hs)
 have hcat:=box (show (⟨(low 4 (crcN s.data.toList)).toArray⟩:ByteArray)++s=⟨(sealL s.data.toList).toArray⟩ from ba_ext (by rw[append_toList];rfl))
 obtain⟨n,hn⟩:∃n,crcN s.data.toList=n:=⟨_,rfl⟩
 rw[hn]at hlt hsum hcat
 have hnum:=box (rNum_any 4 n w (by decide) (by omega))
 have z2:(⟨(low 4 n).toArray⟩:ByteArray).size=4:=low_size 4 n
 obtain⟨u,hu⟩:∃u:ByteArray,⟨(low 4 n).toArray⟩=u:=⟨_,rfl⟩
 rw[hu]at hcat z2 hnum
 clear hu hn
 rw[←hcat.out]
 go_enter Tryz.func110,Tryz.ntmps110
 go_wp2_with fail
 refine hsum.out.mono ?_
 rintro e w2 ⟨rfl,rfl⟩
 go_wp2_with fail
 refine hnum.out.mono ?_
 rintro e w3 ⟨rfl,hc⟩
 have C:=box hc
 clear hc
 go_wp2_with fail
 go_ret
 exact⟨rfl,C.out⟩
theorem right_body {m:MsgS} (h:RightP m) (hk:m.kind=0):m.body.size≤1024:=by
 obtain⟨_,h⟩:=h
 rcases h with ⟨h1,_⟩|⟨h1,_⟩|⟨_,⟨h7,_⟩|⟨_,_,_,h9,_⟩⟩
 ·omega
 ·omega
 ·omega
 ·exact h9
set_option maxHeartbeats 8000000 in
theorem rPut_any (m:MsgS) (kv:Value) (w:World) (hk:StrsAt w kv m.keys) (hR:RightP m) :
  Calls Tryz.prog 61 #[.agg (msgA m kv)] w fun e w'=>e=.returned (.string (putS RightP m).1)∧Calm w w':=by
 have hfit:=box (fun (hk:m.kind≠0)=>right_fits m hR hk)
 have hzero:=box (fun (hk:m.kind=0)=>right_zero m hR hk)
 have hbody:=box (right_body hR)
 have hput:putS RightP m=if m.kind=0 then (if 3≤m.body.size∧m.body.size≤1024 then (fillB m.body.size,0) else (⟨#[]⟩,1)) else (recB m,0):=by unfold putS;rw[if_neg (fun h=>h hR)]
 have hlist:=box (fun (W:World) (hW:Calm w W) (F:Fits m)=>rList_any kv m.keys W (hk.calm hW) (by have:=F.keys;omega) (fun s hs=>by have:=F.key s hs;omega))
 obtain⟨ka,kcap,rfl,_⟩:=hk.uni
 obtain⟨W1,hW1⟩:∃W1,w.alloc (.cells (msgA m (.slice ka m.keys.length kcap)) 63)=W1:=⟨_,rfl⟩
 have J0:=box (show W1.heap[w.heap.size]? = some (.cells (msgA m (.slice ka m.keys.length kcap)) 63 (0,0)) by rw[←hW1];exact heap_new w _)
 have C0:=box (show Calm w W1 by rw[←hW1];exact(Calm.refl w).alloc _)
 clear hk hR
 obtain⟨kd,q,du,rt,rf,bn,tp,tg,bd,ks⟩:=m
 have c0:=cell_of J0.out 0
 have c1:=cell_of J0.out 1
 have c2:=cell_of J0.out 2
 have c3:=cell_of J0.out 3
 have c4:=cell_of J0.out 4
 have c5:=cell_of J0.out 5
 have c6:=cell_of J0.out 6
 have c7:=cell_of J0.out 7
 have c8:=cell_of J0.out 8
 have c9:=cell_of J0.out 9
 have hlt:=heap_lt J0.out
 by_cases hk0:kd=0
 ·subst hk0
  rw[if_pos rfl]at hput
  have hz:=hzero.out rfl
  have hle:bd.size≤1024:=hbody.out rfl
  have hbz:bd=zerosB bd.size:=congrArg MsgS.body hz
  clear hfit hzero hbody hlist hz
  by_cases h3:3≤bd.size
  ·simp only at hput
   rw[if_pos ⟨h3,hle⟩]at hput
   have hnum:=box (fun W=>rNum_any 2 bd.size W (by decide) (by omega))
   have hcut:(bd.extract 3 bd.size).data.toList=List.replicate (bd.size-3) 0:=by
    rw[show (bd.extract 3 bd.size).data.toList=(bd.data.toList.drop 3).take (bd.size-3) by simp only[ByteArray.data_extract,Array.toList_extract,List.extract_eq_take_drop]]
    rw[show bd.data.toList=List.replicate bd.size 0 from by conv=>lhs;rw[hbz];unfold zerosB;rfl]
    simp
   have hcat:=box (show (⟨#[90]⟩:ByteArray)++⟨(low 2 bd.size).toArray⟩++bd.extract 3 bd.size=fillB bd.size from ba_ext (by rw[append_toList,append_toList,hcut];unfold fillB;simp))
   have z1:(⟨(low 2 bd.size).toArray⟩:ByteArray).size=2:=low_size 2 bd.size
   have z3:(bd.extract 3 bd.size).size=bd.size-3:=by simp
   obtain⟨u,hu⟩:∃u:ByteArray,⟨(low 2 bd.size).toArray⟩=u:=⟨_,rfl⟩
   rw[hu]at hcat z1 hnum
   rw[hput,←hcat.out]
   have b2:(3:Int)≤bd.size:=by omega
   have hnb:¬9223372036854775807<bd.size:=by omega
   have b3:decide ((bd.size:Int)<3)=false:=decide_eq_false (by omega)
   clear hput hcat hu hcut hbz
   go_enter Tryz.func61,Tryz.ntmps61
   go_wp2_with fail
   refine wp_region_held_drew (S:=fun w'=>w'.cell? ⟨w.heap.size,0,none⟩=some (.int .i64 0)∧w'.cell? ⟨w.heap.size,1,none⟩=some (.int .i64 q)∧w'.cell? ⟨w.heap.size,2,none⟩=some (.int .i64 du)∧w'.cell? ⟨w.heap.size,3,none⟩=some (.int .i64 rt)∧w'.cell? ⟨w.heap.size,4,none⟩=some (.int .i64 rf)∧w'.cell? ⟨w.heap.size,5,none⟩=some (.int .i64 bn)∧w'.cell? ⟨w.heap.size,6,none⟩=some (.string tp)∧w'.cell? ⟨w.heap.size,7,none⟩=some (.string tg)∧w'.cell? ⟨w.heap.size,8,none⟩=some (.string bd)∧w'.cell? ⟨w.heap.size,9,none⟩=some (.slice ka ks.length kcap)) (by kernel_rfl) ⟨cell_of J0.out 0,cell_of J0.out 1,cell_of J0.out 2,cell_of J0.out 3,cell_of J0.out 4,cell_of J0.out 5,cell_of J0.out 6,cell_of J0.out 7,cell_of J0.out 8,cell_of J0.out 9⟩ (fun hHeld=>?_)
   clear hW1
   have C1:=box (C0.out.drew)
   have J1:=box (show W1.drew.heap[w.heap.size]? = _ from J0.out)
   (refine tk 0 ?_;refine tk 1 ?_;refine tk 2 ?_)
   (refine tk 5 ?_;refine tk 6 ?_;refine tk 7 ?_)
   refine wpAnyH_ready (rs:=[3]) (by kernel_rfl) (by simp) ?_
   refine AllReadyH.cons rfl (fun K hK=>?_) AllReadyH.nil
   rw[if_pos (by rfl)]
   go_simp
   refine(hnum.out _).mono ?_
   rintro e w2 ⟨rfl,hb⟩
   have J2:=box (heap_calm hb J1.out)
   have C2:=box (C1.out.trans hb)
   clear hb
   go_wp2_with fail
   refine hK.out _ _ ⟨cell_of J2.out 0,cell_of J2.out 1,cell_of J2.out 2,cell_of J2.out 3,cell_of J2.out 4,cell_of J2.out 5,cell_of J2.out 6,cell_of J2.out 7,cell_of J2.out 8,cell_of J2.out 9⟩ (fun hHeld2=>?_)
   clear hK K
   try simp only[List.getElem_toArray,List.getElem_cons_succ,List.getElem_cons_zero,Act.put,List.setIfInBounds_toArray,List.set_cons_zero,List.set_cons_succ]
   (refine tk 4 ?_)
   (refine tk 8 ?_;refine tk 9 ?_)
   refine wpAnyH_done (by kernel_rfl) ?_ _
   go_wp2_with fail
   go_ret
   exact⟨rfl,C2.out⟩
  ·simp only at hput
   rw[if_neg (fun h=>h3 h.1)]at hput
   rw[hput]
   have b3:decide ((bd.size:Int)<3)=true:=decide_eq_true (by omega)
   clear hput hbz
   go_enter Tryz.func61,Tryz.ntmps61
   go_wp2_with fail
   go_ret
   exact⟨rfl,C0.out⟩
 ·simp only at hput
  rw[if_neg hk0]at hput
  have F:=hfit.out hk0
  have hlist2:=box (fun W hW=>hlist.out W hW F)
  clear hlist
  have hil:=inside_length F
  have hsl:=seal_length (insideL ⟨kd,q,du,rt,rf,bn,tp,tg,bd,ks⟩)
  have htl:=textsL_le ks F.key
  obtain⟨f1,f2,f3,f4,f5,f6,f7,f8,f9,f10,f11⟩:=F
  simp only at *
  obtain⟨kd,rfl⟩:∃k:Nat,kd=k:=⟨kd.toNat,by omega⟩
  obtain⟨q,rfl⟩:∃k:Nat,q=k:=⟨q.toNat,by omega⟩
  obtain⟨rt,rfl⟩:∃k:Nat,rt=k:=⟨rt.toNat,by omega⟩
  obtain⟨bn,rfl⟩:∃k:Nat,bn=k:=⟨bn.toNat,by omega⟩
  obtain⟨du,rfl⟩:∃k:Nat,du=k:=⟨du.toNat,by omega⟩
  obtain⟨rf,rfl⟩:∃k:Nat,rf=k:=⟨rf.toNat,by omega⟩
  have hnum:=box (fun (n x:Nat) (hn:n≤8) (hx:x≤9223372036854775807) (W:World)=>rNum_any n x W hn hx)
  have htx:=box (fun (s:ByteArray) (hs:s.size≤1000000) (W:World)=>rText_any s W hs)
  have hn1:=box (hnum.out 1 kd (by decide) (by omega))
  have hn2:=box (hnum.out 1 q (by decide) (by omega))
  have hn3:=box (hnum.out 1 rt (by decide) (by omega))
  have hn4:=box (hnum.out 6 bn (by decide) (by omega))
  have hn5:=box (hnum.out 6 du (by decide) (by omega))
  have hn6:=box (hnum.out 6 rf (by decide) (by omega))
  have ht1:=box (htx.out tp (by omega))
  have ht2:=box (htx.out tg (by omega))
  have ht3:=box (htx.out bd (by omega))
  have hcat:=box (show (⟨(low 1 kd).toArray⟩:ByteArray)++⟨(low 1 q).toArray⟩++⟨(low 1 rt).toArray⟩++⟨(low 6 bn).toArray⟩++⟨(low 6 du).toArray⟩++⟨(low 6 rf).toArray⟩++⟨(textL tp).toArray⟩++⟨(textL tg).toArray⟩++⟨(textL bd).toArray⟩++⟨(low 1 ks.length++textsL ks).toArray⟩=⟨(insideL ⟨kd,q,du,rt,rf,bn,tp,tg,bd,ks⟩).toArray⟩ from ba_ext (by
   simp only[append_toList];unfold insideL;simp))
  have za1:(⟨(low 1 kd).toArray⟩:ByteArray).size=1:=low_size 1 _
  obtain⟨a1,ha1⟩:∃u:ByteArray,⟨(low 1 kd).toArray⟩=u:=⟨_,rfl⟩
  rw[ha1]at hcat za1 hn1
  have za2:(⟨(low 1 q).toArray⟩:ByteArray).size=1:=low_size 1 _
  obtain⟨a2,ha2⟩:∃u:ByteArray,⟨(low 1 q).toArray⟩=u:=⟨_,rfl⟩
  rw[ha2]at hcat za2 hn2
  have za3:(⟨(low 1 rt).toArray⟩:ByteArray).size=1:=low_size 1 _
  obtain⟨a3,ha3⟩:∃u:ByteArray,⟨(low 1 rt).toArray⟩=u:=⟨_,rfl⟩
  rw[ha3]at hcat za3 hn3
  have za4:(⟨(low 6 bn).toArray⟩:ByteArray).size=6:=low_size 6 _
  obtain⟨a4,ha4⟩:∃u:ByteArray,⟨(low 6 bn).toArray⟩=u:=⟨_,rfl⟩
  rw[ha4]at hcat za4 hn4
  have za5:(⟨(low 6 du).toArray⟩:ByteArray).size=6:=low_size 6 _
  obtain⟨a5,ha5⟩:∃u:ByteArray,⟨(low 6 du).toArray⟩=u:=⟨_,rfl⟩
  rw[ha5]at hcat za5 hn5
  have za6:(⟨(low 6 rf).toArray⟩:ByteArray).size=6:=low_size 6 _
  obtain⟨a6,ha6⟩:∃u:ByteArray,⟨(low 6 rf).toArray⟩=u:=⟨_,rfl⟩
  rw[ha6]at hcat za6 hn6
  have zb1:(⟨(textL tp).toArray⟩:ByteArray).size≤1000:=by show (textL tp).toArray.size≤_;rw[List.size_toArray,textL_length];omega
  obtain⟨b1,hb1⟩:∃u:ByteArray,⟨(textL tp).toArray⟩=u:=⟨_,rfl⟩
  rw[hb1]at hcat zb1 ht1
  have zb2:(⟨(textL tg).toArray⟩:ByteArray).size≤1000:=by show (textL tg).toArray.size≤_;rw[List.size_toArray,textL_length];omega
  obtain⟨b2,hb2⟩:∃u:ByteArray,⟨(textL tg).toArray⟩=u:=⟨_,rfl⟩
  rw[hb2]at hcat zb2 ht2
  have zb3:(⟨(textL bd).toArray⟩:ByteArray).size≤1000:=by show (textL bd).toArray.size≤_;rw[List.size_toArray,textL_length];omega
  obtain⟨b3,hb3⟩:∃u:ByteArray,⟨(textL bd).toArray⟩=u:=⟨_,rfl⟩
  rw[hb3]at hcat zb3 ht3
  have zd:(⟨(low 1 ks.length++textsL ks).toArray⟩:ByteArray).size≤1000:=by show (low 1 ks.length++textsL ks).toArray.size≤_;rw[List.size_toArray,List.length_append,low_length];omega
  obtain⟨d,hd⟩:∃u:ByteArray,⟨(low 1 ks.length++textsL ks).toArray⟩=u:=⟨_,rfl⟩
  rw[hd]at hcat zd hlist2
  clear ha1 ha2 ha3 ha4 ha5 ha6 hb1 hb2 hb3 hd
  have n1:¬9223372036854775807<21+b1.size:=by omega
  have n2:¬9223372036854775807<21+b1.size+b2.size:=by omega
  have n3:¬9223372036854775807<21+b1.size+b2.size+b3.size:=by omega
  have n4:¬9223372036854775807<21+b1.size+b2.size+b3.size+d.size:=by omega
  obtain⟨v,hv⟩:∃u:ByteArray,⟨(insideL ⟨kd,q,du,rt,rf,bn,tp,tg,bd,ks⟩).toArray⟩=u:=⟨_,rfl⟩
  have hvl:v.data.toList=insideL ⟨kd,q,du,rt,rf,bn,tp,tg,bd,ks⟩:=by rw[←hv]
  rw[hv]at hcat
  have hvz:v.size≤314:=by rw[←size_toList,hvl];exact hil
  have hseal:=box (fun W=>rSeal_any v W (by omega))
  rw[hvl]at hseal
  have hsz:(⟨(sealL (insideL ⟨kd,q,du,rt,rf,bn,tp,tg,bd,ks⟩)).toArray⟩:ByteArray).size=(sealL (insideL ⟨kd,q,du,rt,rf,bn,tp,tg,bd,ks⟩)).length:=by show (_:List UInt8).toArray.size=_;simp
  have hfin:=box (show (⟨#[165]⟩:ByteArray)++⟨(low 2 (3+(sealL (insideL ⟨kd,q,du,rt,rf,bn,tp,tg,bd,ks⟩)).length)).toArray⟩++⟨(sealL (insideL ⟨kd,q,du,rt,rf,bn,tp,tg,bd,ks⟩)).toArray⟩=recB ⟨kd,q,du,rt,rf,bn,tp,tg,bd,ks⟩ from ba_ext (by rw[append_toList,append_toList];unfold recB;simp))
  rw[←hsz]at hfin
  obtain⟨x,hx⟩:∃u:ByteArray,⟨(sealL (insideL ⟨kd,q,du,rt,rf,bn,tp,tg,bd,ks⟩)).toArray⟩=u:=⟨_,rfl⟩
  rw[hx]at hfin hseal hsz
  have hxz:x.size≤400:=by omega
  have hn7:=box (fun W=>rNum_any 2 (3+x.size) W (by decide) (by omega))
  have y1:(⟨(low 2 (3+x.size)).toArray⟩:ByteArray).size=2:=low_size 2 _
  obtain⟨y,hy⟩:∃u:ByteArray,⟨(low 2 (3+x.size)).toArray⟩=u:=⟨_,rfl⟩
  rw[hy]at hfin hn7 y1
  have hn7:=box (fun W=>(show Calls Tryz.prog 107 #[.int .i64 2,.int .i64 (3+(x.size:Int))] W fun e w'=>e=.returned (.string y)∧Calm W w' from hn7.out W))
  rw[hput,←hfin.out]
  have e0:((kd:Int)==0)=false:=beq_eq_false_iff_ne.2 hk0
  clear hput hv hvl hsz hx hy hil hsl htl hnum htx hk0 hfin f1 f2 f3 f4 f5 f6 f7 f8 f9 f10 f11
  go_enter Tryz.func61,Tryz.ntmps61
  go_wp2_with fail
  refine wp_region_held_drew (S:=fun w'=>w'.cell? ⟨w.heap.size,0,none⟩=some (.int .i64 kd)∧w'.cell? ⟨w.heap.size,1,none⟩=some (.int .i64 q)∧w'.cell? ⟨w.heap.size,2,none⟩=some (.int .i64 du)∧w'.cell? ⟨w.heap.size,3,none⟩=some (.int .i64 rt)∧w'.cell? ⟨w.heap.size,4,none⟩=some (.int .i64 rf)∧w'.cell? ⟨w.heap.size,5,none⟩=some (.int .i64 bn)∧w'.cell? ⟨w.heap.size,6,none⟩=some (.string tp)∧w'.cell? ⟨w.heap.size,7,none⟩=some (.string tg)∧w'.cell? ⟨w.heap.size,8,none⟩=some (.string bd)∧w'.cell? ⟨w.heap.size,9,none⟩=some (.slice ka ks.length kcap)) (by kernel_rfl) ⟨cell_of J0.out 0,cell_of J0.out 1,cell_of J0.out 2,cell_of J0.out 3,cell_of J0.out 4,cell_of J0.out 5,cell_of J0.out 6,cell_of J0.out 7,cell_of J0.out 8,cell_of J0.out 9⟩ (fun hHeld=>?_)
  clear hW1
  have C1:=box (C0.out.drew)
  have J1:=box (show W1.drew.heap[w.heap.size]? = _ from J0.out)
  (refine tk 0 ?_;refine tk 1 ?_)
  (refine tk 3 ?_;refine tk 4 ?_)
  (refine tk 7 ?_;refine tk 8 ?_)
  refine wpAnyH_ready (rs:=[2]) (by kernel_rfl) (by simp) ?_
  refine AllReadyH.cons rfl (fun K hK=>?_) AllReadyH.nil
  rw[if_pos (by rfl)]
  go_simp
  refine(hn1.out _).mono ?_
  rintro e w2 ⟨rfl,hb⟩
  have J2:=box (heap_calm hb J1.out)
  have C2:=box (C1.out.trans hb)
  clear hb
  go_wp2_with fail
  refine hK.out _ _ ⟨cell_of J2.out 0,cell_of J2.out 1,cell_of J2.out 2,cell_of J2.out 3,cell_of J2.out 4,cell_of J2.out 5,cell_of J2.out 6,cell_of J2.out 7,cell_of J2.out 8,cell_of J2.out 9⟩ (fun hHeld2=>?_)
  clear hK K
  try simp only[List.getElem_toArray,List.getElem_cons_succ,List.getElem_cons_zero,Act.put,List.setIfInBounds_toArray,List.set_cons_zero,List.set_cons_succ]
  refine wpAnyH_ready (rs:=[5]) (by kernel_rfl) (by simp) ?_
  refine AllReadyH.cons rfl (fun K hK=>?_) AllReadyH.nil
  rw[if_pos (by rfl)]
  go_simp
  refine(hn2.out _).mono ?_
  rintro e w3 ⟨rfl,hb⟩
  have J3:=box (heap_calm hb J2.out)
  have C3:=box (C2.out.trans hb)
  clear hb
  go_wp2_with fail
  refine hK.out _ _ ⟨cell_of J3.out 0,cell_of J3.out 1,cell_of J3.out 2,cell_of J3.out 3,cell_of J3.out 4,cell_of J3.out 5,cell_of J3.out 6,cell_of J3.out 7,cell_of J3.out 8,cell_of J3.out 9⟩ (fun hHeld3=>?_)
  clear hK K
  try simp only[List.getElem_toArray,List.getElem_cons_succ,List.getElem_cons_zero,Act.put,List.setIfInBounds_toArray,List.set_cons_zero,List.set_cons_succ]
  (refine tk 6 ?_)
  refine wpAnyH_ready (rs:=[9]) (by kernel_rfl) (by simp) ?_
  refine AllReadyH.cons rfl (fun K hK=>?_) AllReadyH.nil
  rw[if_pos (by rfl)]
  go_simp
  refine(hn3.out _).mono ?_
  rintro e w4 ⟨rfl,hb⟩
  have J4:=box (heap_calm hb J3.out)
  have C4:=box (C3.out.trans hb)
  clear hb
  go_wp2_with fail
  refine hK.out _ _ ⟨cell_of J4.out 0,cell_of J4.out 1,cell_of J4.out 2,cell_of J4.out 3,cell_of J4.out 4,cell_of J4.out 5,cell_of J4.out 6,cell_of J4.out 7,cell_of J4.out 8,cell_of J4.out 9⟩ (fun hHeld4=>?_)
  clear hK K
  try simp only[List.getElem_toArray,List.getElem_cons_succ,List.getElem_cons_zero,Act.put,List.setIfInBounds_toArray,List.set_cons_zero,List.set_cons_succ]
  (refine tk 10 ?_;refine tk 11 ?_)
  refine wpAnyH_done (by kernel_rfl) ?_ _
  clear c0 c1 c2 c3 c4 c5 c6 c7 c8 c9 hlt hHeld hHeld2 hHeld3 hHeld4
  have c0:=cell_of J4.out 0
  have c1:=cell_of J4.out 1
  have c2:=cell_of J4.out 2
  have c3:=cell_of J4.out 3
  have c4:=cell_of J4.out 4
  have c5:=cell_of J4.out 5
  have c6:=cell_of J4.out 6
  have c7:=cell_of J4.out 7
  have c8:=cell_of J4.out 8
  have c9:=cell_of J4.out 9
  have hlt:=heap_lt J4.out
  go_wp2_with fail
  refine wp_region_held_drew (S:=fun w'=>w'.cell? ⟨w.heap.size,0,none⟩=some (.int .i64 kd)∧w'.cell? ⟨w.heap.size,1,none⟩=some (.int .i64 q)∧w'.cell? ⟨w.heap.size,2,none⟩=some (.int .i64 du)∧w'.cell? ⟨w.heap.size,3,none⟩=some (.int .i64 rt)∧w'.cell? ⟨w.heap.size,4,none⟩=some (.int .i64 rf)∧w'.cell? ⟨w.heap.size,5,none⟩=some (.int .i64 bn)∧w'.cell? ⟨w.heap.size,6,none⟩=some (.string tp)∧w'.cell? ⟨w.heap.size,7,none⟩=some (.string tg)∧w'.cell? ⟨w.heap.size,8,none⟩=some (.string bd)∧w'.cell? ⟨w.heap.size,9,none⟩=some (.slice ka ks.length kcap)) (by kernel_rfl) ⟨cell_of J4.out 0,cell_of J4.out 1,cell_of J4.out 2,cell_of J4.out 3,cell_of J4.out 4,cell_of J4.out 5,cell_of J4.out 6,cell_of J4.out 7,cell_of J4.out 8,cell_of J4.out 9⟩ (fun hHeld=>?_)
  have C5:=box (C4.out.drew)
  have J5:=box (show w4.drew.heap[w.heap.size]? = _ from J4.out)
  (refine tk 0 ?_;refine tk 1 ?_;refine tk 2 ?_)
  (refine tk 5 ?_;refine tk 6 ?_)
  (refine tk 9 ?_;refine tk 10 ?_)
  refine wpAnyH_ready (rs:=[3]) (by kernel_rfl) (by simp) ?_
  refine AllReadyH.cons rfl (fun K hK=>?_) AllReadyH.nil
  rw[if_pos (by rfl)]
  go_simp
  refine(hn4.out _).mono ?_
  rintro e w6 ⟨rfl,hb⟩
  have J6:=box (heap_calm hb J5.out)
  have C6:=box (C5.out.trans hb)
  clear hb
  go_wp2_with fail
  refine hK.out _ _ ⟨cell_of J6.out 0,cell_of J6.out 1,cell_of J6.out 2,cell_of J6.out 3,cell_of J6.out 4,cell_of J6.out 5,cell_of J6.out 6,cell_of J6.out 7,cell_of J6.out 8,cell_of J6.out 9⟩ (fun hHeld6=>?_)
  clear hK K
  try simp only[List.getElem_toArray,List.getElem_cons_succ,List.getElem_cons_zero,Act.put,List.setIfInBounds_toArray,List.set_cons_zero,List.set_cons_succ]
  (refine tk 4 ?_)
  refine wpAnyH_ready (rs:=[7]) (by kernel_rfl) (by simp) ?_
  refine AllReadyH.cons rfl (fun K hK=>?_) AllReadyH.nil
  rw[if_pos (by rfl)]
  go_simp
  refine(hn5.out _).mono ?_
  rintro e w7 ⟨rfl,hb⟩
  have J7:=box (heap_calm hb J6.out)
  have C7:=box (C6.out.trans hb)
  clear hb
  go_wp2_with fail
  refine hK.out _ _ ⟨cell_of J7.out 0,cell_of J7.out 1,cell_of J7.out 2,cell_of J7.out 3,cell_of J7.out 4,cell_of J7.out 5,cell_of J7.out 6,cell_of J7.out 7,cell_of J7.out 8,cell_of J7.out 9⟩ (fun hHeld7=>?_)
  clear hK K
  try simp only[List.getElem_toArray,List.getElem_cons_succ,List.getElem_cons_zero,Act.put,List.setIfInBounds_toArray,List.set_cons_zero,List.set_cons_succ]
  (refine tk 8 ?_)
  refine wpAnyH_ready (rs:=[11]) (by kernel_rfl) (by simp) ?_
  refine AllReadyH.cons rfl (fun K hK=>?_) AllReadyH.nil
  rw[if_pos (by rfl)]
  go_simp
  refine(hn6.out _).mono ?_
  rintro e w8 ⟨rfl,hb⟩
  have J8:=box (heap_calm hb J7.out)
  have C8:=box (C7.out.trans hb)
  clear hb
  go_wp2_with fail
  refine hK.out _ _ ⟨cell_of J8.out 0,cell_of J8.out 1,cell_of J8.out 2,cell_of J8.out 3,cell_of J8.out 4,cell_of J8.out 5,cell_of J8.out 6,cell_of J8.out 7,cell_of J8.out 8,cell_of J8.out 9⟩ (fun hHeld8=>?_)
  clear hK K
  try simp only[List.getElem_toArray,List.getElem_cons_succ,List.getElem_cons_zero,Act.put,List.setIfInBounds_toArray,List.set_cons_zero,List.set_cons_succ]
  (refine tk 12 ?_;refine tk 13 ?_)
  refine wpAnyH_done (by kernel_rfl) ?_ _
  clear c0 c1 c2 c3 c4 c5 c6 c7 c8 c9 hlt hHeld hHeld6 hHeld7 hHeld8
  have c0:=cell_of J8.out 0
  have c1:=cell_of J8.out 1
  have c2:=cell_of J8.out 2
  have c3:=cell_of J8.out 3
  have c4:=cell_of J8.out 4
  have c5:=cell_of J8.out 5
  have c6:=cell_of J8.out 6
  have c7:=cell_of J8.out 7
  have c8:=cell_of J8.out 8
  have c9:=cell_of J8.out 9
  have hlt:=heap_lt J8.out
  go_wp2_with fail
  refine wp_region_held_drew (S:=fun w'=>w'.cell? ⟨w.heap.size,0,none⟩=some (.int .i64 kd)∧w'.cell? ⟨w.heap.size,1,none⟩=some (.int .i64 q)∧w'.cell? ⟨w.heap.size,2,none⟩=some (.int .i64 du)∧w'.cell? ⟨w.heap.size,3,none⟩=some (.int .i64 rt)∧w'.cell? ⟨w.heap.size,4,none⟩=some (.int .i64 rf)∧w'.cell? ⟨w.heap.size,5,none⟩=some (.int .i64 bn)∧w'.cell? ⟨w.heap.size,6,none⟩=some (.string tp)∧w'.cell? ⟨w.heap.size,7,none⟩=some (.string tg)∧w'.cell? ⟨w.heap.size,8,none⟩=some (.string bd)∧w'.cell? ⟨w.heap.size,9,none⟩=some (.slice ka ks.length kcap)) (by kernel_rfl) ⟨cell_of J8.out 0,cell_of J8.out 1,cell_of J8.out 2,cell_of J8.out 3,cell_of J8.out 4,cell_of J8.out 5,cell_of J8.out 6,cell_of J8.out 7,cell_of J8.out 8,cell_of J8.out 9⟩ (fun hHeld=>?_)
  have C9:=box (C8.out.drew)
  have J9:=box (show w8.drew.heap[w.heap.size]? = _ from J8.out)
  (refine tk 0 ?_;refine tk 1 ?_;refine tk 2 ?_)
  (refine tk 5 ?_;refine tk 6 ?_)
  (refine tk 9 ?_;refine tk 10 ?_)
  (refine tk 13 ?_;refine tk 14 ?_)
  refine wpAnyH_ready (rs:=[3]) (by kernel_rfl) (by simp) ?_
  refine AllReadyH.cons rfl (fun K hK=>?_) AllReadyH.nil
  rw[if_pos (by rfl)]
  go_simp
  refine(ht1.out _).mono ?_
  rintro e w10 ⟨rfl,hb⟩
  have J10:=box (heap_calm hb J9.out)
  have C10:=box (C9.out.trans hb)
  clear hb
  go_wp2_with fail
  refine hK.out _ _ ⟨cell_of J10.out 0,cell_of J10.out 1,cell_of J10.out 2,cell_of J10.out 3,cell_of J10.out 4,cell_of J10.out 5,cell_of J10.out 6,cell_of J10.out 7,cell_of J10.out 8,cell_of J10.out 9⟩ (fun hHeld10=>?_)
  clear hK K
  try simp only[List.getElem_toArray,List.getElem_cons_succ,List.getElem_cons_zero,Act.put,List.setIfInBounds_toArray,List.set_cons_zero,List.set_cons_succ]
  (refine tk 4 ?_)
  refine wpAnyH_ready (rs:=[7]) (by kernel_rfl) (by simp) ?_
  refine AllReadyH.cons rfl (fun K hK=>?_) AllReadyH.nil
  rw[if_pos (by rfl)]
  go_simp
  refine(ht2.out _).mono ?_
  rintro e w11 ⟨rfl,hb⟩
  have J11:=box (heap_calm hb J10.out)
  have C11:=box (C10.out.trans hb)
  clear hb
  go_wp2_with fail
  refine hK.out _ _ ⟨cell_of J11.out 0,cell_of J11.out 1,cell_of J11.out 2,cell_of J11.out 3,cell_of J11.out 4,cell_of J11.out 5,cell_of J11.out 6,cell_of J11.out 7,cell_of J11.out 8,cell_of J11.out 9⟩ (fun hHeld11=>?_)
  clear hK K
  try simp only[List.getElem_toArray,List.getElem_cons_succ,List.getElem_cons_zero,Act.put,List.setIfInBounds_toArray,List.set_cons_zero,List.set_cons_succ]
  (refine tk 8 ?_)
  refine wpAnyH_ready (rs:=[11]) (by kernel_rfl) (by simp) ?_
  refine AllReadyH.cons rfl (fun K hK=>?_) AllReadyH.nil
  rw[if_pos (by rfl)]
  go_simp
  refine(ht3.out _).mono ?_
  rintro e w12 ⟨rfl,hb⟩
  have J12:=box (heap_calm hb J11.out)
  have C12:=box (C11.out.trans hb)
  clear hb
  go_wp2_with fail
  refine hK.out _ _ ⟨cell_of J12.out 0,cell_of J12.out 1,cell_of J12.out 2,cell_of J12.out 3,cell_of J12.out 4,cell_of J12.out 5,cell_of J12.out 6,cell_of J12.out 7,cell_of J12.out 8,cell_of J12.out 9⟩ (fun hHeld12=>?_)
  clear hK K
  try simp only[List.getElem_toArray,List.getElem_cons_succ,List.getElem_cons_zero,Act.put,List.setIfInBounds_toArray,List.set_cons_zero,List.set_cons_succ]
  (refine tk 12 ?_)
  refine wpAnyH_ready (rs:=[15]) (by kernel_rfl) (by simp) ?_
  refine AllReadyH.cons rfl (fun K hK=>?_) AllReadyH.nil
  rw[if_pos (by rfl)]
  go_simp
  refine(hlist2.out _ C12.out).mono ?_
  rintro e w13 ⟨rfl,hb⟩
  have J13:=box (heap_calm hb J12.out)
  have C13:=box (C12.out.trans hb)
  clear hb
  go_wp2_with fail
  refine hK.out _ _ ⟨cell_of J13.out 0,cell_of J13.out 1,cell_of J13.out 2,cell_of J13.out 3,cell_of J13.out 4,cell_of J13.out 5,cell_of J13.out 6,cell_of J13.out 7,cell_of J13.out 8,cell_of J13.out 9⟩ (fun hHeld13=>?_)
  clear hK K
  try simp only[List.getElem_toArray,List.getElem_cons_succ,List.getElem_cons_zero,Act.put,List.setIfInBounds_toArray,List.set_cons_zero,List.set_cons_succ]
  (refine tk 16 ?_;refine tk 17 ?_)
  refine wpAnyH_done (by kernel_rfl) ?_ _
  clear c0 c1 c2 c3 c4 c5 c6 c7 c8 c9 hlt hHeld hHeld10 hHeld11 hHeld12 hHeld13
  rw[hcat.out]
  go_wp2_with fail
  refine(hseal.out _).mono ?_
  rintro e w14 ⟨rfl,hc14⟩
  have C14:=box (C13.out.trans hc14)
  clear hc14
  go_wp2_with fail
  refine(hn7.out _).mono ?_
  rintro e w15 ⟨rfl,hc15⟩
  have C15:=box (C14.out.trans hc15)
  clear hc15
  go_wp2_with fail
  go_ret
  exact⟨rfl,C15.out⟩
end Go.Proofs.YtiahjipoofeliaaGreatDoor.rc

namespace Go.Proofs.YtiahjipoofeliaaGreatDoor.tp
open Go.ChangeShapes Go.WideShapes Go.ChangeAt Go.RowKit Go.ChangeMaps
open rc oc cr dk sg
abbrev tapeN:ByteArray:=⟨#[116,97,112,101,45]⟩
structure TS where
 D:DiskS
 R:RowS
 ps:List Pc
 last:Int
def TS.recs (S:TS):List (Nat×MsgS):=tp.recs S.R.start S.ps
def TS.ids (S:TS):List Nat:=S.recs.map (·.1)
def encZ (x:Nat×MsgS):Value×Value:=(.int .i64 (x.1:Int),.int .i64 ((recB x.2).size:Int))
structure TpIn (W w:World) (t p n r sb mb:Nat) (D:DiskS) (R:RowS) (L:List (Nat×MsgS)) (last:Int) (F:Nat→Prop) (v iv:Value):Prop where
 seg:SegAt W w r p n D R F v
 obj:w.heap[t]? = some (.cells #[ptrTo r,ptrTo sb,iv,.map (some mb),.int .i64 last] 122 (0,0))
 sums:TabAt w sb 1024
 ids:w.ownsRow W.heap.size 3 1 iv L.length (intN (L.map (·.1)))
 sizes:MapIs w mb (.int .i64) (L.map encZ)
 apart:∀b,iv.ownBlock=some b→v.ownBlock≠some b
 mF:¬F mb
 tW:W.heap.size≤t
 sW:W.heap.size≤sb
 mW:W.heap.size≤mb
def tfoot (t r sb mb:Nat) (F:Nat→Prop) (v iv:Value) (b:Nat):Prop:=F b∨(b=r∨v.ownBlock=some b)∨b=t∨b=sb∨b=mb∨iv.ownBlock=some b
section
variable {W w w':World} {t p n r sb mb:Nat} {D D':DiskS} {R R':RowS} {L:List (Nat×MsgS)} {last:Int} {F F':Nat→Prop} {v v' iv:Value}
theorem TpIn.calm (h:TpIn W w t p n r sb mb D R L last F v iv) (hc:Calm w w'):TpIn W w' t p n r sb mb D R L last F v iv :=
 ⟨h.seg.drew hc,heap_calm hc h.obj,heap_calm hc h.sums,own_calm h.ids hc,h.sizes.calm hc,h.apart,h.mF,h.tW,h.sW,h.mW⟩
theorem TpIn.lt (h:TpIn W w t p n r sb mb D R L last F v iv):∀b,tfoot t r sb mb F v iv b→b<w.heap.size:=fun b hb=>by
 rcases hb with hb|(rfl|hb)|rfl|rfl|rfl|hb
 ·exact h.seg.disk.foot_lt b hb
 ·exact heap_lt h.seg.row.at_
 ·exact(h.seg.row.row.lt b hb).2
 ·exact heap_lt h.obj
 ·exact heap_lt h.sums
 ·exact h.sizes.lt
 ·exact(h.ids.lt b hb).2
theorem TpIn.cells (h:TpIn W w t p n r sb mb D R L last F v iv):w.cell? ⟨t,0,none⟩=some (ptrTo r)∧w.cell? ⟨t,1,none⟩=some (ptrTo sb)∧w.cell? ⟨t,2,none⟩=some iv∧w.cell? ⟨t,3,none⟩=some (.map (some mb))∧w.cell? ⟨t,4,none⟩=some (.int .i64 last)∧t<w.heap.size :=
 ⟨cell_of h.obj 0,cell_of h.obj 1,cell_of h.obj 2,cell_of h.obj 3,cell_of h.obj 4,heap_lt h.obj⟩
def OthS (T:TypeId):Prop:=T≠93∧T≠133∧T≠137∧T≠128∧T≠3
theorem oth_tape:OthS 122:=by unfold OthS;decide
theorem oth_table:OthS 169:=by unfold OthS;decide
theorem seg_oth {b:Nat} {cs:Array Value} {T:TypeId} (hT:OthS T) (hs:SegAt W w r p n D R F v) (hb:w.heap[b]? = some (.cells cs T (0,0))):¬(F b∨rfoot r v b):=fun hf=>by
 rcases hf with hf|hf|hf
 ·obtain⟨mb,wv,h1,rfl⟩:=hs.disk.lies
  rcases hf with rfl|rfl|hf|hf
  ·rw[h1.obj]at hb;simp only[Option.some.injEq,Obj.cells.injEq]at hb;exact hT.1 hb.2.1.symm
  ·obtain⟨es,c,hm,_⟩:=h1.map;rw[hm]at hb;cases hb
  ·obtain⟨c,hc2⟩:=own_row h1.waits hf;rw[hc2]at hb;simp only[Option.some.injEq,Obj.cells.injEq]at hb;exact hT.2.1 hb.2.1.symm
  ·obtain⟨f,hf',rfl⟩:=List.mem_map.1 hf
   rw[h1.files f hf']at hb;simp only[Option.some.injEq,Obj.cells.injEq]at hb;exact hT.2.2.1 hb.2.1.symm
 ·subst hf;rw[hs.row.at_]at hb;simp only[Option.some.injEq,Obj.cells.injEq]at hb;exact hT.2.2.2.1 hb.2.1.symm
 ·obtain⟨c,hc2⟩:=own_row hs.row.row hf;rw[hc2]at hb;simp only[Option.some.injEq,Obj.cells.injEq]at hb;exact hT.2.2.2.2 hb.2.1.symm
theorem seg_map {b:Nat} {d:TypeDesc} {m:List (Value×Value)} (hs:SegAt W w r p n D R F v) (hb:MapIs w b d m) (hF:¬F b):¬(F b∨rfoot r v b):=fun hf=>by
 obtain⟨es,c,hm,_⟩:=hb
 rcases hf with hf|hf|hf
 ·exact hF hf
 ·subst hf;rw[hs.row.at_]at hm;cases hm
 ·obtain⟨c,hc2⟩:=own_row hs.row.row hf;rw[hc2]at hm;cases hm
theorem seg_ints {b B k:Nat} {u:Value} {xs:List Value} (hs:SegAt W w r p n D R F v) (hb:w.ownsRow B 3 1 u k xs) (hu:u.ownBlock=some b) (ha:v.ownBlock≠some b):¬(F b∨rfoot r v b):=fun hf=>by
 obtain⟨cs,hc⟩:=own_row hb hu
 rcases hf with hf|hf|hf
 ·obtain⟨mb,wv,h1,rfl⟩:=hs.disk.lies
  rcases hf with rfl|rfl|hf|hf
  ·rw[h1.obj]at hc;simp only[Option.some.injEq,Obj.cells.injEq]at hc;exact absurd hc.2.1 (by decide)
  ·obtain⟨es,c,hm,_⟩:=h1.map;rw[hm]at hc;cases hc
  ·obtain⟨c,hc2⟩:=own_row h1.waits hf;rw[hc2]at hc;simp only[Option.some.injEq,Obj.cells.injEq]at hc;exact absurd hc.2.1 (by decide)
  ·obtain⟨f,hf',rfl⟩:=List.mem_map.1 hf
   rw[h1.files f hf']at hc;simp only[Option.some.injEq,Obj.cells.injEq]at hc;exact absurd hc.2.1 (by decide)
 ·subst hf;rw[hs.row.at_]at hc;simp only[Option.some.injEq,Obj.cells.injEq]at hc;exact absurd hc.2.1 (by decide)
 ·exact ha hf
theorem TpIn.step {n':Nat} (h:TpIn W w t p n r sb mb D R L last F v iv) (hS:SegAt W w' r p n' D' R' F' v') (hT:SegStep w r F v w' F' v'):TpIn W w' t p n' r sb mb D' R' L last F' v' iv:=by
 have hids:=h.ids
 refine⟨hS,(hT.keeps.block _ (heap_lt h.obj) (seg_oth oth_tape h.seg h.obj)).trans h.obj,(hT.keeps.block _ (heap_lt h.sums) (seg_oth oth_table h.seg h.sums)).trans h.sums,
  row_same h.ids (fun g hg=>hT.keeps.block g (h.ids.lt g hg).2 (seg_ints h.seg h.ids hg (h.apart g hg))),h.sizes.same (hT.keeps.block _ h.sizes.lt (seg_map h.seg h.sizes h.mF)),fun b hb e=>?_,fun hf=>?_,h.tW,h.sW,h.mW⟩
 ·rcases hT.row b e with h1|h1
  ·exact h.apart b hb h1
  ·have:=(h.ids.lt b hb).2;omega
 ·rcases hT.foot mb hf with h1|h1
  ·exact h.mF h1
  ·have:=h.sizes.lt;omega
theorem TpIn.foot_step (h:TpIn W w t p n r sb mb D R L last F v iv) (hT:SegStep w r F v w' F' v'):Step (tfoot t r sb mb F v iv) w (tfoot t r sb mb F' v' iv) w':=by
 refine⟨hT.keeps.mono (fun b _ hb=>?_),fun b hb=>?_⟩
 ·rcases hb with hb|hb
  ·exact .inl hb
  ·exact .inr (.inl hb)
 ·rcases hb with hb|(rfl|hb)|hb
  ·rcases hT.foot b hb with h1|h1
   ·exact .inl (.inl h1)
   ·exact .inr h1
  ·exact .inl (.inr (.inl (.inl rfl)))
  ·rcases hT.row b hb with h1|h1
   ·exact .inl (.inr (.inl (.inr h1)))
   ·exact .inr h1
  ·exact .inl (.inr (.inr hb))
end
end Go.Proofs.YtiahjipoofeliaaGreatDoor.tp
