/- Lemmas for this claim. -/
import Derived.OwnWalk
import Derived.Test.YtiahjipoofeliaaGreatDoorPk29
set_option maxRecDepth 100000
namespace Go.Proofs.YtiahjipoofeliaaGreatDoor.tp
open Go.ChangeShapes Go.WideShapes Go.ChangeAt Go.RowKit Go.ChangeMaps
open rc oc cr dk sg
def fillOf (e:Nat) (m:MsgS):ByteArray:=if okM m then (if goesIn e (recB m).size then ⟨#[]⟩ else fillB (roomAt e)) else ⟨#[]⟩
def bytesOf (m:MsgS):ByteArray:=if okM m then recB m else ⟨#[]⟩
theorem cost_of {e:Nat} (m:MsgS) (he:e%1024=0∨e%1024+3≤1024):costP e m=(fillOf e m).size+(bytesOf m).size:=by
 unfold costP fillOf bytesOf
 by_cases h:okM m
 ·rw[if_pos h,if_pos h,if_pos h,laid_len he]
  by_cases hg:goesIn e (recB m).size
  ·rw[if_pos hg,if_pos hg];show _=0+_;omega
  ·rw[if_neg hg,if_neg hg,fillB_size (by unfold roomAt;omega)]
 ·rw[if_neg h,if_neg h,if_neg h];rfl
structure Fair (w:World) (m:MsgS) (kv:Value):Prop where
 keys:StrsAt w kv m.keys
 key:∀s∈m.keys,s.size≤maxLen
 len:m.keys.length≤1000000
 body:m.body.size≤140737488355328
theorem Fair.calm {w w':World} {m:MsgS} {kv:Value} (h:Fair w m kv) (hc:Calm w w'):Fair w' m kv:=⟨h.keys.calm hc,h.key,h.len,h.body⟩
section
variable {W w w':World} {t p n r sb mb:Nat} {D D':DiskS} {R R':RowS} {L:List (Nat×MsgS)} {last:Int} {F F':Nat→Prop} {v v' iv:Value}
theorem room_at (h:RowOk R) (hz:R.size=1024):R.room=roomAt R.fin:=by rw[h.roomMod,hz];rfl
set_option maxHeartbeats 8000000 in
theorem laid_any (m:MsgS) (kv:Value) (w:World) (h:TpIn W w t p n r sb mb D R L last F v iv) (hz:R.size=1024) (he:R.fin%1024=0∨R.fin%1024+3≤1024) (hm:Fair w m kv) :
  Calls Tryz.prog 62 #[ptrTo t,.agg (msgA m kv)] w fun e w'=>e=.returned (.tuple #[.string (fillOf R.fin m),.string (bytesOf m),.bool (decide (okM m))])∧Calm w w':=by
 obtain⟨ka,kcap,hkv,_⟩:=hm.keys.uni
 subst hkv
 obtain⟨W1,hW1⟩:∃W1,w.alloc (.cells (msgA m (.slice ka m.keys.length kcap)) 63)=W1:=⟨_,rfl⟩
 have J0:=box (show W1.heap[w.heap.size]? = some (.cells (msgA m (.slice ka m.keys.length kcap)) 63 (0,0)) by rw[←hW1];exact heap_new w _)
 have C0:=box (show Calm w W1 by rw[←hW1];exact(Calm.refl w).alloc _)
 have h1:=h.calm C0.out
 have hm1:=hm.calm C0.out
 have hput:=box (fun W' (hc:Calm W1 W')=>Put_any sb m _ W' (heap_calm hc h1.sums) (hm1.keys.calm hc) hm.key hm.len hm.body)
 have hrow:=box (fun W' (hc:Calm W1 W')=>Room_row W' (h1.seg.row.calm hc))
 rw[room_at h.seg.row.ok hz]at hrow
 have hfl:=box (fun (k:Nat) (hk:3≤k∧k≤1024) (W':World)=>Fill_any (k:Int) W')
 have hrm:=box (show 3≤roomAt R.fin∧roomAt R.fin≤1024 by unfold roomAt;omega)
 have hcs:=box (fun W' (hc:Calm W1 W')=>(h1.calm hc).cells)
 have hjs:=box (fun W' (hc:Calm W1 W')=>heap_calm hc J0.out)
 have hpu:okM m→putS RightP m=(recB m,0):=fun hok=>by unfold putS;rw[if_neg (fun h=>h hok.1),if_neg hok.2]
 have hno:¬okM m→(putS RightP m).2≠0∨m.kind=0:=fun hok=>by
  unfold putS
  by_cases hr:RightP m
  ·right
   by_cases hk:m.kind=0
   ·exact hk
   ·exact absurd ⟨hr,hk⟩ hok
  ·left;rw[if_pos hr];decide
 have hf0:¬okM m→fillOf R.fin m=⟨#[]⟩∧bytesOf m=⟨#[]⟩:=fun hok=>by unfold fillOf bytesOf;rw[if_neg hok,if_neg hok];exact⟨rfl,rfl⟩
 have hf1:okM m→bytesOf m=recB m∧(goesIn R.fin (recB m).size→fillOf R.fin m=⟨#[]⟩)∧(¬goesIn R.fin (recB m).size→fillOf R.fin m=fillB (roomAt R.fin))∧(recB m).size≤321:=fun hok=>by
  unfold fillOf bytesOf;rw[if_pos hok,if_pos hok];exact⟨rfl,fun hg=>by rw[if_pos hg],fun hg=>by rw[if_neg hg],(recB_bounds hok.1 hok.2).2⟩
 obtain⟨⟨pb,pc⟩,hp⟩:∃x,putS RightP m=x:=⟨_,rfl⟩
 rw[hp]at hput hpu hno
 simp only at hput hno
 clear hp h h1 hm1 hz he hm
 by_cases hok:okM m
 ·obtain⟨hb1,hg1,hg2,h321⟩:=hf1 hok
  have e1:=hpu hok
  simp only[Prod.mk.injEq]at e1
  obtain⟨rfl,rfl⟩:=e1
  have hkd:m.kind≠0:=hok.2
  rw[hb1,decide_eq_true hok]
  have HG1:=box hg1
  have HG2:=box hg2
  clear hf0 hf1 hno hpu hb1 hg1 hg2 hok
  obtain⟨B,hB⟩:∃B,recB m=B:=⟨_,rfl⟩
  obtain⟨f,hf⟩:∃f,fillOf R.fin m=f:=⟨_,rfl⟩
  rw[hf,hB]at HG1 HG2
  rw[hB]at hput h321
  rw[hf,hB]
  clear hf hB
  obtain⟨rm,hrmE⟩:∃rm,roomAt R.fin=rm:=⟨_,rfl⟩
  obtain⟨kd,q,du,rt,rf,bn,tp,tg,bd,ks⟩:=m
  have s1:(kd==0)=false:=beq_eq_false_iff_ne.2 hkd
  unfold goesIn at HG1 HG2
  rw[hrmE]at hrow hrm HG1 HG2
  clear hrmE hkd
  obtain⟨g0,g1,_,_,_,glt⟩:=hcs.out W1 (Calm.refl _)
  have c0:=cell_of J0.out 0
  have c1:=cell_of J0.out 1
  have c2:=cell_of J0.out 2
  have c3:=cell_of J0.out 3
  have c4:=cell_of J0.out 4
  have c5:=cell_of J0.out 5
  have c6:=cell_of J0.out 6
  have c7:=cell_of J0.out 7
  have c8:=cell_of J0.out 8
  have c9:=cell_of J0.out 9
  have hlt:=heap_lt J0.out
  go_enter Tryz.func62,Tryz.ntmps62
  go_upto_region 1 with fail
  (try rw[hW1])
  go_region_with ((go_at_call 111;refine(hput.out _ (by exact cm)).mono ?_;rintro e w2 ⟨rfl,hc2⟩))
  all_goals
   have HC2:=box (show Calm W1 w2 by exact cm)
   clear hc2 c0 c1 c2 c3 c4 c5 c6 c7 c8 c9 hlt g0 g1 glt
   obtain⟨g0,g1,_,_,_,glt⟩:=hcs.out w2 HC2.out
   have k0:=cell_of (hjs.out w2 HC2.out) 0
   have klt:=heap_lt (hjs.out w2 HC2.out)
   go_wp2_with fail
   refine(hrow.out _ HC2.out).mono ?_
   rintro e w3 ⟨rfl,q3,rfl⟩
   have HC3:=box (C0.out.trans (HC2.out.drewN q3))
   obtain⟨hrm3,hrm4⟩:=hrm.out
   have k1:IntKind.i64.wrap ((rm:Int)-(B.size:Int))=(rm:Int)-(B.size:Int):=IntWalk.i64_in _ (by omega)
   by_cases hg:B.size=rm∨B.size+3≤rm
   ·have hfe:=HG1.out hg
    subst hfe
    rcases hg with hg|hg
    ·have t1:((rm:Int)-(B.size:Int)==0)=true:=by rw[hg];simp
     have t1b:((rm:Int)==(B.size:Int))=true:=by rw[hg];simp
     go_wp2_with fail
     go_ret3
     exact⟨rfl,HC3.out⟩
    ·have t1:((rm:Int)-(B.size:Int)==0)=false:=beq_eq_false_iff_ne.2 (by omega)
     have t2:decide ((3:Int)≤(rm:Int)-(B.size:Int))=true:=decide_eq_true (by omega)
     go_wp2_with fail
     go_ret3
     exact⟨rfl,HC3.out⟩
   ·have hfe:=HG2.out hg
    subst hfe
    have t1:((rm:Int)-(B.size:Int)==0)=false:=beq_eq_false_iff_ne.2 (by omega)
    have t2:decide ((3:Int)≤(rm:Int)-(B.size:Int))=false:=decide_eq_false (by omega)
    have hfl2:=box (hfl.out rm hrm.out)
    rw[if_pos (by omega),Int.toNat_natCast]at hfl2
    clear hg
    go_wp2_with fail
    refine(hfl2.out _).mono ?_
    rintro e w4 ⟨rfl,hc4⟩
    have HC4:=box (HC3.out.trans hc4)
    clear hc4
    go_wp2_with fail
    go_ret3
    exact⟨rfl,HC4.out⟩
 ·obtain⟨hb1,hb2⟩:=hf0 hok
  rw[hb1,hb2,decide_eq_false hok]
  have hno2:=hno hok
  clear hf0 hf1 hno hpu hb1 hb2 hok hrow hfl hrm
  obtain⟨kd,q,du,rt,rf,bn,tp,tg,bd,ks⟩:=m
  simp only at hno2
  obtain⟨g0,g1,_,_,_,glt⟩:=hcs.out W1 (Calm.refl _)
  have c0:=cell_of J0.out 0
  have c1:=cell_of J0.out 1
  have c2:=cell_of J0.out 2
  have c3:=cell_of J0.out 3
  have c4:=cell_of J0.out 4
  have c5:=cell_of J0.out 5
  have c6:=cell_of J0.out 6
  have c7:=cell_of J0.out 7
  have c8:=cell_of J0.out 8
  have c9:=cell_of J0.out 9
  have hlt:=heap_lt J0.out
  go_enter Tryz.func62,Tryz.ntmps62
  go_upto_region 1 with fail
  (try rw[hW1])
  go_region_with ((go_at_call 111;refine(hput.out _ (by exact cm)).mono ?_;rintro e w2 ⟨rfl,hc2⟩))
  all_goals
   have HC2:=box (show Calm W1 w2 by exact cm)
   clear hc2 c0 c1 c2 c3 c4 c5 c6 c7 c8 c9 hlt g0 g1 glt
   have k0:=cell_of (hjs.out w2 HC2.out) 0
   have klt:=heap_lt (hjs.out w2 HC2.out)
   have HC3:=box (C0.out.trans HC2.out)
   by_cases h0:pc=0
   ·subst h0
    have hkd:kd=0:=hno2.resolve_left (fun h=>h rfl)
    subst hkd
    clear hno2
    go_wp2_with fail
    go_ret3
    exact⟨rfl,HC3.out⟩
   ·have t1:(pc != 0)=true:=by simpa using h0
    clear hno2 h0
    go_wp2_with fail
    go_ret3
    exact⟨rfl,HC3.out⟩
end
end Go.Proofs.YtiahjipoofeliaaGreatDoor.tp

namespace Go.Proofs.YtiahjipoofeliaaGreatDoor.tp
open Go.ChangeShapes Go.WideShapes Go.ChangeAt Go.RowKit Go.ChangeMaps Go.MapKept
open rc oc cr dk sg
section
variable {W w w':World} {t p n r sb mb:Nat} {D D':DiskS} {R R':RowS} {L:List (Nat×MsgS)} {last:Int} {F F':Nat→Prop} {v v' iv:Value}
theorem loose_any (t a:Nat) (w:World) (ha:a≤1000000000):Calls Tryz.prog 100 #[ptrTo t,.int .i64 (a:Int)] w fun e w'=>e=.returned (.bool (decide (roomAt a<3)))∧w=w':=by
 have e0:(a:Int)%1024=((a%1024:Nat):Int):=rfl
 have h1:decide (roomAt a<3)=decide ((1024:Int)-(a:Int)%1024<3):=decide_eq_decide.2 (by unfold roomAt;omega)
 rw[h1]
 clear h1 e0
 go_enter Tryz.func100,Tryz.ntmps100
 go_wp2_with fail
 go_ret
 exact⟨rfl,rfl⟩
theorem TpIn.noted {w2:World} {iv2:Value} {a:Nat} {m:MsgS} {o:Obj} (h:TpIn W w t p n r sb mb D R L last F v iv) (hrow:w2.ownsRow 0 3 1 iv2 (L.map (·.1)++[a]).length (intN (L.map (·.1)++[a]))) (hk:Keeps (fun g=>iv.ownBlock=some g) w w2) (hg:∀g,iv2.ownBlock=some g→iv.ownBlock=some g∨w.heap.size≤g)
  (hmap:MapIs (setBlock (w2.setCell ⟨t,2,none⟩ iv2) mb o) mb (.int .i64) (L.map encZ++[(.int .i64 (a:Int),.int .i64 ((recB m).size:Int))])) :
  TpIn W ((setBlock (w2.setCell ⟨t,2,none⟩ iv2) mb o).setCell ⟨t,4,none⟩ (.int .i64 m.born)) t p n r sb mb D R (L++[(a,m)]) m.born F v iv2 ∧
   Step (tfoot t r sb mb F v iv) w (tfoot t r sb mb F v iv2) ((setBlock (w2.setCell ⟨t,2,none⟩ iv2) mb o).setCell ⟨t,4,none⟩ (.int .i64 m.born)):=by
 have hiv:∀g,iv2.ownBlock=some g→W.heap.size≤g:=fun g e=>by
  rcases hg g e with h1|h1
  ·exact(h.ids.lt g h1).1
  ·exact Nat.le_trans h.seg.calm.size h1
 have htf:¬(F t∨rfoot r v t):=seg_oth oth_tape h.seg h.obj
 have hmf:¬(F mb∨rfoot r v mb):=seg_map h.seg h.sizes h.mF
 have htm:t≠mb:=fun e=>by obtain⟨es,c,hm,_⟩:=h.sizes;rw[←e,h.obj]at hm;cases hm
 have hsm:sb≠mb:=fun e=>by obtain⟨es,c,hm,_⟩:=h.sizes;have:=h.sums;unfold TabAt at this;rw[←e,this]at hm;cases hm
 have hst:sb≠t:=fun e=>by have:=h.sums;unfold TabAt at this;rw[e,h.obj]at this;simp at this
 have hti:iv.ownBlock≠some t:=fun e=>by obtain⟨c,hc⟩:=own_row h.ids e;rw[h.obj]at hc;simp at hc
 have hmi:iv.ownBlock≠some mb:=fun e=>by obtain⟨c,hc⟩:=own_row h.ids e;obtain⟨es,k,hm,_⟩:=h.sizes;rw[hc]at hm;cases hm
 have hsi:iv.ownBlock≠some sb:=fun e=>by obtain⟨c,hc⟩:=own_row h.ids e;have:=h.sums;unfold TabAt at this;rw[hc]at this;simp at this
 have hti2:iv2.ownBlock≠some t:=fun e=>by
  rcases hg t e with h1|h1
  ·exact hti h1
  ·have:=heap_lt h.obj;omega
 have hmi2:iv2.ownBlock≠some mb:=fun e=>by
  rcases hg mb e with h1|h1
  ·exact hmi h1
  ·have:=h.sizes.lt;omega
 -- all that was turned
 have hK:Keeps (fun b=>b=t∨b=mb∨iv.ownBlock=some b) w ((setBlock (w2.setCell ⟨t,2,none⟩ iv2) mb o).setCell ⟨t,4,none⟩ (.int .i64 m.born)) :=
  (((hk.mono (fun b _ hb=>.inr (.inr hb))).setCell (p:=⟨t,2,none⟩) (.inl (.inl rfl)) _).setObj (.inl (.inr (.inl rfl))) o).setCell (p:=⟨t,4,none⟩) (.inl (.inl rfl)) _
 have hsegK:∀b,(F b∨rfoot r v b)→¬(b=t∨b=mb∨iv.ownBlock=some b):=fun b hb e=>by
  rcases e with rfl|rfl|e
  ·exact htf hb
  ·exact hmf hb
  ·exact seg_ints h.seg h.ids e (h.apart b e) hb
 have hcW:Calm W ((setBlock (w2.setCell ⟨t,2,none⟩ iv2) mb o).setCell ⟨t,4,none⟩ (.int .i64 m.born)):=Below.trans h.seg.calm (hK.below h.seg.calm.size (fun b hb=>by
  rcases hb with rfl|rfl|hb
  ·exact h.tW
  ·exact h.mW
  ·exact(h.ids.lt b hb).1))
 have ht2:w2.heap[t]? = _:=(hk.block t (heap_lt h.obj) hti).trans h.obj
 have hlen:(L++[(a,m)]).length=(L.map (·.1)++[a]).length:=by simp
 have hmapL:(L++[(a,m)]).map (·.1)=L.map (·.1)++[a]:=by simp
 refine⟨⟨⟨h.seg.disk.keep hK (fun b hb e=>hsegK b (.inl hb) e),⟨(hK.block r (heap_lt h.seg.row.at_) (fun e=>hsegK r (.inr (.inl rfl)) e)).trans h.seg.row.at_,row_same h.seg.row.row (fun g hg'=>hK.block g (h.seg.row.row.lt g hg').2 (fun e=>hsegK g (.inr (.inr hg')) e)),h.seg.row.ok⟩,h.seg.tab,hcW,h.seg.fW,h.seg.rW,h.seg.vW⟩,
  ?_,?_,?_,?_,?_,h.mF,h.tW,h.sW,h.mW⟩,hK.mono (fun b _ hb=>?_),fun b hb=>?_⟩
 ·have h1:=heap_set ht2 2 iv2
  have h2:(setBlock (w2.setCell ⟨t,2,none⟩ iv2) mb o).heap[t]? = _:=(heap_put_other _ o htm).trans h1
  exact heap_set h2 4 _
 ·refine(hK.block sb (heap_lt h.sums) (fun e=>?_)).trans h.sums
  rcases e with e|e|e
  ·exact hst e
  ·exact hsm e
  ·exact hsi e
 ·rw[hlen,hmapL]
  refine row_base (row_same hrow (fun g e=>?_)) hiv
  rw[heap_set_other (fun e2=>hti2 (by rw[←e2];exact e)),heap_put_other _ _ (fun e2=>hmi2 (by rw[←e2];exact e)),heap_set_other (fun e2=>hti2 (by rw[←e2];exact e))]
 ·rw[List.map_append]
  refine hmap.same ?_
  rw[heap_set_other (fun e=>htm e.symm)]
 ·intro b hb e
  rcases hg b hb with h1|h1
  ·exact h.apart b h1 e
  ·have:=(h.seg.row.row.lt b e).2;omega
 ·rcases hb with rfl|rfl|hb
  ·exact .inr (.inr (.inl rfl))
  ·exact .inr (.inr (.inr (.inr (.inl rfl))))
  ·exact .inr (.inr (.inr (.inr (.inr hb))))
 ·rcases hb with hb|hb|hb|hb|hb|hb
  ·exact .inl (.inl hb)
  ·exact .inl (.inr (.inl hb))
  ·exact .inl (.inr (.inr (.inl hb)))
  ·exact .inl (.inr (.inr (.inr (.inl hb))))
  ·exact .inl (.inr (.inr (.inr (.inr (.inl hb)))))
  ·rcases hg b hb with h1|h1
   ·exact .inl (.inr (.inr (.inr (.inr (.inr h1)))))
   ·exact .inr h1
def NoteDone (W:World) (t p n r sb mb:Nat) (D:DiskS) (R:RowS) (L:List (Nat×MsgS)) (last:Int) (F:Nat→Prop) (v iv:Value) (w:World) (e:Ending) (w':World):Prop :=
 e=.returned (.tuple #[])∧∃iv',TpIn W w' t p n r sb mb D R L last F v iv'∧Step (tfoot t r sb mb F v iv) w (tfoot t r sb mb F v iv') w'
set_option maxHeartbeats 8000000 in
theorem note_fill (m:MsgS) (kv:Value) (a z:Int) (w:World) (h:TpIn W w t p n r sb mb D R L last F v iv) (hk:m.kind=0) :
  Calls Tryz.prog 65 #[ptrTo t,.int .i64 a,.int .i64 z,.agg (msgA m kv)] w (NoteDone W t p n r sb mb D R L last F v iv w):=by
 obtain⟨kd,q,du,rt,rf,bn,tp,tg,bd,ks⟩:=m
 simp only at hk
 subst hk
 have HC:=box ((Calm.refl w).alloc (.cells (msgA ⟨0,q,du,rt,rf,bn,tp,tg,bd,ks⟩ kv) 63))
 have H:=box h
 clear h
 go_enter Tryz.func65,Tryz.ntmps65
 go_wp2_with fail
 go_end0
 exact⟨rfl,iv,H.out.calm HC.out,Step.of_calm HC.out⟩
set_option maxHeartbeats 8000000 in
theorem note_any (m:MsgS) (kv:Value) (a:Nat) (w:World) (h:TpIn W w t p n r sb mb D R L last F v iv) (hk:m.kind≠0) (hnew:∀x∈L,x.1≠a) (hL:L.length≤1000000) :
  Calls Tryz.prog 65 #[ptrTo t,.int .i64 (a:Int),.int .i64 ((recB m).size:Int),.agg (msgA m kv)] w (NoteDone W t p n r sb mb D R (L++[(a,m)]) m.born F v iv w):=by
 obtain⟨ia0,in0,ic0,rfl⟩:=row_slice h.ids
 obtain⟨W1,hW1⟩:∃W1,w.alloc (.cells (msgA m kv) 63)=W1:=⟨_,rfl⟩
 have C1:Calm w W1:=by rw[←hW1];exact(Calm.refl w).alloc _
 have J1:W1.heap[w.heap.size]? = some (.cells (msgA m kv) 63 (0,0)):=by rw[←hW1];exact heap_new w _
 have C2:Calm w (W1.alloc (.cells #[.int .i64 (a:Int)] 3)):=C1.alloc _
 have h2:=h.calm C2
 obtain⟨iv2,w2,happ,hrow,hk2,hg2⟩:=append_place (W1.alloc (.cells #[.int .i64 (a:Int)] 3)) (.slice ia0 in0 ic0) (L.map (·.1)) a W1.heap.size (by rw[List.length_map];exact row_zero h2.ids) (heap_new W1 _) (by rw[List.length_map];omega) 69
 obtain⟨iva,ivn,ivc,rfl⟩:=row_slice hrow
 have hti:(Value.slice ia0 in0 ic0).ownBlock≠some t:=fun e=>by obtain⟨c,hc⟩:=own_row h.ids e;rw[h.obj]at hc;simp at hc
 have hmi:(Value.slice ia0 in0 ic0).ownBlock≠some mb:=fun e=>by obtain⟨c,hc⟩:=own_row h.ids e;obtain⟨es,k,hm,_⟩:=h.sizes;rw[hc]at hm;cases hm
 have htm:t≠mb:=fun e=>by obtain⟨es,c,hm,_⟩:=h.sizes;rw[←e,h.obj]at hm;cases hm
 have ht2:=(hk2.block t (heap_lt h2.obj) hti).trans h2.obj
 have hm2:MapIs (w2.setCell ⟨t,2,none⟩ (.slice iva ivn ivc)) mb (.int .i64) (L.map encZ):=h2.sizes.same ((heap_set_other (fun e=>htm e.symm) _ _).trans (hk2.block mb h2.sizes.lt hmi))
 obtain⟨o,hupd,hm3⟩:=MapIs.add (P:=Tryz.prog) (t:=120) hm2 Tryz.underlying120 Tryz.underlying3 (key:=.int .i64 (a:Int)) (.int .i64 ((recB m).size:Int)) rfl (fun y hy=>by
  obtain⟨x,hx,rfl⟩:=List.mem_map.1 hy
  intro e
  simp only[encZ,Value.int.injEq,true_and]at e
  exact hnew x hx (by omega))
 obtain⟨hT,hS⟩:=h2.noted hrow hk2 hg2 hm3
 have HT:=box hT
 have HS:=box (Step.calm_left C2 hS)
 have hmsg:w.heap.size≠t∧w.heap.size≠mb∧(Value.slice ia0 in0 ic0).ownBlock≠some w.heap.size:=⟨fun e=>by have:=heap_lt h.obj;omega,fun e=>by have:=h.sizes.lt;omega,fun e=>by have:=(h.ids.lt _ e).2;omega⟩
 have J2:=heap_calm ((Calm.refl W1).alloc (.cells #[.int .i64 (a:Int)] 3)) J1
 have J3:(w2.setCell ⟨t,2,none⟩ (.slice iva ivn ivc)).heap[w.heap.size]? = some (.cells (msgA m kv) 63 (0,0)):=(heap_set_other hmsg.1 _ _).trans ((hk2.block _ (heap_lt J2) hmsg.2.2).trans J2)
 have J4:(setBlock (w2.setCell ⟨t,2,none⟩ (.slice iva ivn ivc)) mb o).heap[w.heap.size]? = some (.cells (msgA m kv) 63 (0,0)):=(heap_put_other _ o hmsg.2.1).trans J3
 have ht3:=heap_set ht2 2 (.slice iva ivn ivc)
 have ht4:(setBlock (w2.setCell ⟨t,2,none⟩ (.slice iva ivn ivc)) mb o).heap[t]? = _:=(heap_put_other _ o htm).trans ht3
 have q2:=cell_of ht2 2
 have f2:=free_of ht2 2
 have l2:=heap_lt ht2
 have q3:=cell_of ht3 3
 have l3:=heap_lt ht3
 have f4:=free_of ht4 4
 have q4:=cell_of ht4 4
 have l4:=heap_lt ht4
 have h1:=h.calm C1
 obtain⟨g0,g1,g2,g3,g4,glt⟩:=h1.cells
 have k0:=cell_of J1 0
 have klt:=heap_lt J1
 have k5:=cell_of J4 5
 have klt4:=heap_lt J4
 obtain⟨kd,q,du,rt,rf,bn,tp,tg,bd,ks⟩:=m
 simp only at hk
 have s1:(kd != 0)=true:=by simpa using hk
 have s2:(kd==0)=false:=beq_eq_false_iff_ne.2 hk
 have Happ:=box happ
 clear happ hk h h1 h2 hrow hk2 hg2 hm2 hm3 hT hS hti hmi htm ht2 ht3 ht4 hmsg J1 J2 J3 J4 C1 C2 hnew hL
 go_enter Tryz.func65,Tryz.ntmps65
 go_wp2_with (first|(at_builtin;refine Lib.wpList_append_run _ rfl _ _ _ _ rfl _ _ rfl rfl _ _ Happ.out ?_)|fail)
 go_end0
 exact⟨rfl,_,HT.out,HS.out⟩
end
end Go.Proofs.YtiahjipoofeliaaGreatDoor.tp

namespace Go.Proofs.YtiahjipoofeliaaGreatDoor.tp
open Go.ChangeShapes Go.WideShapes Go.ChangeAt Go.RowKit Go.ChangeMaps
open rc oc cr dk sg
def Rises (L:List (Nat×MsgS)):Prop:=L.Pairwise (fun x y=>x.1<y.1)
def numsI (L:List (Nat×MsgS)):List Int:=L.map fun x=>(x.1:Int)
def placeN (L:List (Nat×MsgS)) (k:Int):Nat:=(numsI L).countP (· < k)
def fromL (L:List (Nat×MsgS)) (k:Int):List (Nat×MsgS):=L.filter fun x=>decide (k≤(x.1:Int))
theorem nums_length (L:List (Nat×MsgS)):(numsI L).length=L.length:=by unfold numsI;simp
theorem nums_take (L:List (Nat×MsgS)):(numsI L).take L.length=numsI L:=by rw[←nums_length,List.take_length]
theorem nums_sorted {L:List (Nat×MsgS)} (h:Rises L):(numsI L).Pairwise (· ≤ ·):=by
 unfold numsI
 rw[List.pairwise_map]
 exact h.imp (fun h=>by omega)
theorem nums_row (L:List (Nat×MsgS)):intN (L.map (·.1))=intRow (numsI L):=by unfold numsI;simp [intN,intRow,Function.comp_def]
theorem place_le (L:List (Nat×MsgS)) (k:Int):placeN L k≤L.length:=by
 unfold placeN
 exact Nat.le_trans List.countP_le_length (Nat.le_of_eq (nums_length L))
theorem drop_place:∀ {L:List (Nat×MsgS)},Rises L→∀k:Int,L.drop (placeN L k)=fromL L k
 | [],_,k=>rfl
 | x :: L,h,k=>by
  have hx:=List.pairwise_cons.1 h
  have ih:=drop_place hx.2 k
  unfold placeN numsI at ih ⊢
  unfold fromL at ih ⊢
  by_cases hk:(x.1:Int)<k
  ·rw[List.map_cons,List.countP_cons_of_pos (by simpa using hk),List.filter_cons_of_neg (by simp;omega),List.drop_succ_cons,ih]
  ·have h0:(L.map fun x=>(x.1:Int)).countP (· < k)=0:=by
    rw[List.countP_eq_zero]
    intro y hy
    obtain⟨z,hz,rfl⟩:=List.mem_map.1 hy
    have:=hx.1 z hz
    simp;omega
   rw[List.map_cons,List.countP_cons_of_neg (by simpa using hk),h0,List.drop_zero,List.filter_cons_of_pos (by simp;omega)]
   congr 1
   rw[h0,List.drop_zero]at ih
   exact ih
theorem slice_from (W:World) (b len cap l:Nat) (hl:l≤len) (hc:len≤cap) :
  ∃a',(∀W:World,(Instr.slice 69 (.slice (some ⟨b,0,none⟩) len cap) (some (.int .i64 (l:Int))) none none).run Tryz.prog W=.ok (.slice (some a') (len-l) (cap-l)) W)∧(l<cap→a'=⟨b,l,none⟩):=by
 have he:Tryz.prog.elem 69=3:=by kernel_rfl
 have hz:∀w:World,(Go.sizeOf 3).run Tryz.prog w=.ok 1 w:=Tryz.sizeOf3
 by_cases h0:l=cap
 ·refine⟨⟨b,0,none⟩,fun W=>?_,fun h=>by omega⟩
  rw[run_slice_l W 69 _ _ _ (by rw[he];exact Tryz.underlying69) .i64 _ (by omega) (by omega),he,hz]
  simp [Result.andThen,sliced,Addr.add,h0]
 ·refine⟨⟨b,l,none⟩,fun W=>?_,fun _=>rfl⟩
  rw[run_slice_l W 69 _ _ _ (by rw[he];exact Tryz.underlying69) .i64 _ (by omega) (by omega),he,hz]
  have hne:¬cap=l:=fun e=>h0 e.symm
  by_cases h1:l=0
  ·subst h1
   simp [Result.andThen,sliced,Addr.add,hne]
  ·simp [Result.andThen,sliced,Addr.add,hne,h1]
section
variable {W w w':World} {t p n r sb mb:Nat} {D D':DiskS} {R R':RowS} {L:List (Nat×MsgS)} {last:Int} {F F':Nat→Prop} {v v' iv:Value}
theorem TpIn.nums (h:TpIn W w t p n r sb mb D R L last F v iv):(L=[]∧iv=.slice none 0 0)∨∃b cap,iv=.slice (some ⟨b,0,none⟩) L.length cap∧L.length≤cap∧b<w.heap.size∧∀j,j<(numsI L).length→w.cell? ⟨b,0+j,none⟩=some (.int .i64 ((numsI L).getD j 0)):=by
 rcases h.ids.2 with ⟨h1,h2⟩|⟨g,cap,cur,h1,h2,h3,h4,h5,h6,h7⟩
 ·exact .inl ⟨List.eq_nil_of_length_eq_zero h2,h1⟩
 ·refine .inr ⟨g,cap,h1,by omega,heap_lt h3,fun j hj=>?_⟩
  rw[Nat.zero_add,cell_of h3]
  have h8:(cur.toList.take (L.length * 1))[j]? = (intRow (numsI L))[j]? := by rw[h7,nums_row]
  rw[nums_length]at hj
  rw[List.getElem?_take_of_lt (by omega)]at h8
  rw[Array.getElem?_toList]at h8
  rw[h8]
  simp [intRow,List.getD_eq_getElem?_getD,List.getElem?_eq_getElem (show j<(numsI L).length by rw[nums_length];exact hj)]
theorem search_nil (x:Int) (w:World):Calls Tryz.prog 115 #[.slice none 0 0,.int .i64 x] w fun e w'=>e=.returned (.tuple #[.int .i64 0,.bool false])∧∃q,w'=w.drewN q:=by
 go_enter Tryz.func115,Tryz.ntmps115
 go_wp2_with fail
 go_loopg [7,8] 0 (fun _ s7 s8 wr=>s7=.int .i64 0∧s8=.int .i64 0∧wr=w)
 case atStart=>exact⟨rfl,rfl,rfl⟩
 case round =>
  obtain⟨rfl,rfl,rfl⟩:=hrel
  go_wp2_with fail
  go_ret2
  exact⟨rfl,0,rfl⟩
set_option maxHeartbeats 4000000 in
theorem place_any (k:Int) (w:World) (h:TpIn W w t p n r sb mb D R L last F v iv) (hr:Rises L) (hL:L.length≤1000000) :
  Calls Tryz.prog 69 #[ptrTo t,.int .i64 k] w fun e w'=>e=.returned (.int .i64 (placeN L k:Int))∧∃q,w'=w.drewN q:=by
 obtain⟨c0,c1,c2,c3,c4,clt⟩:=h.cells
 have hs:Box (Calls Tryz.prog 115 #[iv,.int .i64 k] w fun e w'=>(∃f,e=.returned (.tuple #[.int .i64 (placeN L k:Int),.bool f]))∧∃q,w'=w.drewN q):=by
  refine box ?_
  rcases h.nums with ⟨h1,h2⟩|⟨b,cap,h1,h2,h3,h4⟩
  ·subst h1 h2
   exact(search_nil k w).mono fun e w' ⟨he,hw⟩=>⟨⟨_,he⟩,hw⟩
  ·have:=Tryz.slices_BinarySearch_int b 0 L.length cap (numsI L) k w (by rw[nums_length];exact Nat.le_refl _) (by omega) h4 (by rw[nums_take];exact nums_sorted hr)
   rw[nums_take]at this
   subst h1
   exact this.mono fun e w' ⟨he,hw⟩=>⟨⟨_,he⟩,hw⟩
 obtain⟨pl,hpl⟩:∃pl,placeN L k=pl:=⟨_,rfl⟩
 rw[hpl]at hs ⊢
 obtain⟨iva,ivn,ivc,rfl⟩:=row_slice h.ids
 clear h hr hL hpl
 go_enter Tryz.func69,Tryz.ntmps69
 go_wp2_with fail
 refine hs.out.mono ?_
 rintro e w1 ⟨⟨f,rfl⟩,q,rfl⟩
 go_wp2_with fail
 go_ret
 exact⟨rfl,q,rfl⟩
end
end Go.Proofs.YtiahjipoofeliaaGreatDoor.tp

namespace Go.Proofs.YtiahjipoofeliaaGreatDoor.oc
open Go.ChangeShapes Go.WideShapes Go.ChangeAt Go.RowKit
theorem fails_any (b:Nat) (R:Rdr) (x:Int) (s:ByteArray) (w:World) (h:RdrAt w b R) :
  Calls Tryz.prog 199 #[.pointer (some ⟨b,0,none⟩),.int .i64 x,.string s] w fun e w'=>e=.returned (.tuple #[])∧RdrAt w' b ⟨s,x⟩∧Keeps (· = b) w w':=by
 obtain⟨c0,c1,f0,f1,hb⟩:=h.cells
 have h1:=box ((h.setE x).setS s)
 have K:=box (((Keeps.refl (fun y=>y=b) w).setCell (p:=⟨b,1,none⟩) (.inl rfl) (.int .i64 x)).setCell (p:=⟨b,0,none⟩) (.inl rfl) (.string s))
 clear h
 go_enter Tryz.func199,Tryz.ntmps199
 go_wp2_with fail
 go_end0
 exact⟨rfl,h1.out,K.out⟩
theorem Left_any (b:Nat) (R:Rdr) (w:World) (h:RdrAt w b R):Calls Tryz.prog 200 #[.pointer (some ⟨b,0,none⟩)] w fun e w'=>e=.returned (.int .i64 R.s.size)∧w=w':=by
 obtain⟨c0,c1,f0,f1,hb⟩:=h.cells
 clear h
 go_enter Tryz.func200,Tryz.ntmps200
 go_wp2_with fail
 go_ret
 exact⟨rfl,rfl⟩
theorem End_any (b:Nat) (R:Rdr) (w:World) (h:RdrAt w b R):Calls Tryz.prog 168 #[.pointer (some ⟨b,0,none⟩)] w fun e w'=>e=.returned (.int .i64 R.end_)∧w=w':=by
 have HE:=box (Err_any b R w h)
 have HL:=box (Left_any b R w h)
 obtain⟨s,e⟩:=R
 clear h
 simp only at HE HL
 by_cases he:e=0
 ·subst he
  by_cases hs:s.size=0
  ·have hr:Rdr.end_ ⟨s,0⟩=0:=by unfold Rdr.end_;rw[if_neg (fun h=>h rfl),if_pos hs]
   rw[hr]
   rw[hs]at HL
   clear hr hs
   go_enter Tryz.func168,Tryz.ntmps168
   go_wp2_with fail
   refine HE.out.mono ?_
   rintro e w' ⟨rfl,rfl⟩
   go_wp2_with fail
   refine HL.out.mono ?_
   rintro e w' ⟨rfl,rfl⟩
   go_wp2_with fail
   go_ret
   exact⟨rfl,rfl⟩
  ·have hr:Rdr.end_ ⟨s,0⟩=4:=by unfold Rdr.end_;rw[if_neg (fun h=>h rfl),if_neg hs]
   rw[hr]
   have hs1:((s.size:Int)==0)=false:=beq_eq_false_iff_ne.2 (by omega)
   clear hr hs
   go_enter Tryz.func168,Tryz.ntmps168
   go_wp2_with fail
   refine HE.out.mono ?_
   rintro e w' ⟨rfl,rfl⟩
   go_wp2_with fail
   refine HL.out.mono ?_
   rintro e w' ⟨rfl,rfl⟩
   go_wp2_with fail
   go_ret
   exact⟨rfl,rfl⟩
 ·have hr:Rdr.end_ ⟨s,e⟩=e:=by unfold Rdr.end_;rw[if_pos (by simpa using he)]
  rw[hr]
  have he1:(e==0)=false:=beq_eq_false_iff_ne.2 he
  have he2:(e != 0)=true:=by rw[bne,he1];rfl
  clear hr he
  go_enter Tryz.func168,Tryz.ntmps168
  go_wp2_with fail
  refine HE.out.mono ?_
  rintro e w' ⟨rfl,rfl⟩
  go_wp2_with fail
  go_ret
  exact⟨rfl,rfl⟩
theorem trans_b {b:Nat} {w w1 w2:World} (h:Keeps (· = b) w w1) (g:Keeps (· = b) w1 w2):Keeps (· = b) w w2:=h.trans' g
set_option maxHeartbeats 4000000 in
theorem RText_any (b:Nat) (R:Rdr) (most:Int) (w:World) (h:RdrAt w b R) (hs:R.s.size≤9223372036854775807) :
  Calls Tryz.prog 166 #[.pointer (some ⟨b,0,none⟩),.int .i64 most] w (RdrDone (.string (R.text most).1) b (R.text most).2 w):=by
 have HE:=box (Err_any b R w h)
 have HN:=box (RNum_any b R 2 w h hs)
 have hl:=num_left R 2
 have hns:=num_small R 2
 obtain⟨c0,c1,f0,f1,hb⟩:=h.cells
 have H:=box h
 clear h
 by_cases he:R.e=0
 ·have hr:=box (show R.text most=(if ((if (R.num 2).2.e=0∧most<(R.num 2).1 then (⟨(R.num 2).2.s,6⟩:Rdr) else (R.num 2).2).take (R.num 2).1).2.e≠0 then (((if (R.num 2).2.e=0∧most<(R.num 2).1 then (⟨(R.num 2).2.s,6⟩:Rdr) else (R.num 2).2).take (R.num 2).1).1,(⟨R.s,((if (R.num 2).2.e=0∧most<(R.num 2).1 then (⟨(R.num 2).2.s,6⟩:Rdr) else (R.num 2).2).take (R.num 2).1).2.e⟩:Rdr)) else ((if (R.num 2).2.e=0∧most<(R.num 2).1 then (⟨(R.num 2).2.s,6⟩:Rdr) else (R.num 2).2).take (R.num 2).1)) by unfold Rdr.text;rw[if_neg (fun h=>h he)])
  rw[he]at c1 HE
  obtain⟨⟨n,s1,e1⟩,hN⟩:∃r,R.num 2=r:=⟨_,rfl⟩
  rw[hN]at HN hl hns hr
  simp only at HN hl hns hr
  obtain⟨hn0,hn1⟩:=hns
  have hsb:=box (Nat.le_trans hl hs)
  have hnb:n<9223372036854775807:=by omega
  clear hN hl he
  obtain⟨R2,hR2⟩:∃R2:Rdr,(if e1=0∧most<n then (⟨s1,6⟩:Rdr) else ⟨s1,e1⟩)=R2:=⟨_,rfl⟩
  rw[hR2]at hr
  have hs2:R2.s=s1:=by rw[←hR2];split<;>rfl
  have HT:=box (fun (W:World) (hW:RdrAt W b R2)=>Take_any b R2 n W hW (by rw[hs2];exact hsb.out))
  obtain⟨⟨t,s3,e3⟩,hT⟩:∃r,R2.take n=r:=⟨_,rfl⟩
  rw[hT]at hr HT
  simp only at hr HT
  clear hT hs2
  go_enter Tryz.func166,Tryz.ntmps166
  go_wp2_with fail
  refine HE.out.mono ?_
  rintro e w1 ⟨rfl,rfl⟩
  go_wp2_with fail
  refine HN.out.mono ?_
  rintro e w2 ⟨rfl,hr2,hk2⟩
  have H2:=box hr2
  have K2:=box hk2
  obtain⟨d0,d1,g0,g1,hb2⟩:=hr2.cells
  simp only at d0 d1
  clear hr2 hk2 c0 c1 f0 f1 hb
  by_cases h1:e1=0∧most<n
  ·obtain⟨rfl,hmn⟩:=h1
   rw[if_pos ⟨rfl,hmn⟩]at hR2
   subst hR2
   have H3:=box (H2.out.setE 6)
   have K3:=box (K2.out.setCell (p:=⟨b,1,none⟩) (.inl rfl) (.int .i64 6))
   go_wp2_with fail
   refine(HT.out _ H3.out).mono ?_
   rintro e w4 ⟨rfl,hr4,hk4⟩
   have H4:=box hr4
   have K4:=box (trans_b K3.out hk4)
   obtain⟨q0,q1,r0,r1,hb4⟩:=hr4.cells
   simp only at q0 q1
   clear hr4 hk4 d0 d1 g0 g1 hb2
   by_cases h3:e3=0
   ·subst h3
    have hr:=box (show R.text most=(t,⟨s3,0⟩) by rw[hr.out,if_neg (fun h=>h rfl)])
    go_wp2_with fail
    go_ret
    exact⟨by rw[hr.out];rfl,by rw[hr.out];exact H4.out,K4.out⟩
   ·have hr:=box (show R.text most=(t,⟨R.s,e3⟩) by rw[hr.out,if_pos h3])
    have he1:(e3==0)=false:=beq_eq_false_iff_ne.2 h3
    have he2:(e3 != 0)=true:=by rw[bne,he1];rfl
    have HF:=box (fails_any b ⟨s3,e3⟩ e3 R.s w4 H4.out)
    clear h3
    go_wp2_with fail
    refine HF.out.mono ?_
    rintro e w5 ⟨rfl,hr5,hk5⟩
    have H5:=box hr5
    have K5:=box (trans_b K4.out hk5)
    clear hr5 hk5
    go_wp2_with fail
    go_ret
    exact⟨by rw[hr.out];rfl,by rw[hr.out];exact H5.out,K5.out⟩
  ·rw[if_neg h1]at hR2
   subst hR2
   have H3:=H2
   have K3:=K2
   by_cases h0:e1=0
   ·subst h0
    have hmn:n≤most:=by
     have:¬most<n:=fun h=>h1 ⟨rfl,h⟩
     omega
    clear h1
    go_wp2_with fail
    refine(HT.out _ H3.out).mono ?_
    rintro e w4 ⟨rfl,hr4,hk4⟩
    have H4:=box hr4
    have K4:=box (trans_b K3.out hk4)
    obtain⟨q0,q1,r0,r1,hb4⟩:=hr4.cells
    simp only at q0 q1
    clear hr4 hk4 d0 d1 g0 g1 hb2
    by_cases h3:e3=0
    ·subst h3
     have hr:=box (show R.text most=(t,⟨s3,0⟩) by rw[hr.out,if_neg (fun h=>h rfl)])
     go_wp2_with fail
     go_ret
     exact⟨by rw[hr.out];rfl,by rw[hr.out];exact H4.out,K4.out⟩
    ·have hr:=box (show R.text most=(t,⟨R.s,e3⟩) by rw[hr.out,if_pos h3])
     have he1:(e3==0)=false:=beq_eq_false_iff_ne.2 h3
     have he2:(e3 != 0)=true:=by rw[bne,he1];rfl
     have HF:=box (fails_any b ⟨s3,e3⟩ e3 R.s w4 H4.out)
     clear h3
     go_wp2_with fail
     refine HF.out.mono ?_
     rintro e w5 ⟨rfl,hr5,hk5⟩
     have H5:=box hr5
     have K5:=box (trans_b K4.out hk5)
     clear hr5 hk5
     go_wp2_with fail
     go_ret
     exact⟨by rw[hr.out];rfl,by rw[hr.out];exact H5.out,K5.out⟩
   ·have hz1:(e1==0)=false:=beq_eq_false_iff_ne.2 h0
    clear h1 h0
    go_wp2_with fail
    refine(HT.out _ H3.out).mono ?_
    rintro e w4 ⟨rfl,hr4,hk4⟩
    have H4:=box hr4
    have K4:=box (trans_b K3.out hk4)
    obtain⟨q0,q1,r0,r1,hb4⟩:=hr4.cells
    simp only at q0 q1
    clear hr4 hk4 d0 d1 g0 g1 hb2
    by_cases h3:e3=0
    ·subst h3
     have hr:=box (show R.text most=(t,⟨s3,0⟩) by rw[hr.out,if_neg (fun h=>h rfl)])
     go_wp2_with fail
     go_ret
     exact⟨by rw[hr.out];rfl,by rw[hr.out];exact H4.out,K4.out⟩
    ·have hr:=box (show R.text most=(t,⟨R.s,e3⟩) by rw[hr.out,if_pos h3])
     have he1:(e3==0)=false:=beq_eq_false_iff_ne.2 h3
     have he2:(e3 != 0)=true:=by rw[bne,he1];rfl
     have HF:=box (fails_any b ⟨s3,e3⟩ e3 R.s w4 H4.out)
     clear h3
     go_wp2_with fail
     refine HF.out.mono ?_
     rintro e w5 ⟨rfl,hr5,hk5⟩
     have H5:=box hr5
     have K5:=box (trans_b K4.out hk5)
     clear hr5 hk5
     go_wp2_with fail
     go_ret
     exact⟨by rw[hr.out];rfl,by rw[hr.out];exact H5.out,K5.out⟩
 ·have hr:R.text most=(⟨#[]⟩,R):=by unfold Rdr.text;rw[if_pos he]
  rw[hr]
  have he1:(R.e==0)=false:=beq_eq_false_iff_ne.2 he
  have he2:(R.e != 0)=true:=by rw[bne,he1];rfl
  clear hr he
  go_enter Tryz.func166,Tryz.ntmps166
  go_wp2_with fail
  refine HE.out.mono ?_
  rintro e w' ⟨rfl,rfl⟩
  go_wp2_with fail
  go_ret
  exact⟨rfl,H.out,Keeps.refl _ w⟩
end Go.Proofs.YtiahjipoofeliaaGreatDoor.oc

namespace Go.Proofs.YtiahjipoofeliaaGreatDoor.oc
open Go.ChangeShapes Go.WideShapes Go.ChangeAt Go.RowKit
open rc
theorem infoStr:(Tryz.prog.info? 9).map (fun i=>(i.zero,i.size,i.bytes))=some (some (.string ⟨#[]⟩),1,16):=by kernel_rfl
theorem append_str (w:World) (base:Nat) (v:Value) (l:List ByteArray) (x:ByteArray) (h:w.ownsRow base 9 1 v l.length (l.map Value.string)) (hbase:base≤w.heap.size) (hl:l.length≤1000000) (ty:TypeId) :
  ∃v' w',(Builtin.append_ #[61,61] ty #[v,.slice (some ⟨w.heap.size,0,none⟩) 1 1]).run Tryz.prog (w.alloc (.cells #[.string x] 9))=.ok v' w' ∧
   w'.ownsRow base 9 1 v' (l++[x]).length ((l++[x]).map Value.string)∧Keeps (base≤·) w w':=by
 obtain⟨i0,hi,hz0,hz1,hz2⟩:=info_parts infoStr
 have hb:=heap_new w (.cells #[.string x] 9)
 obtain⟨v',w',h1,h2,h3,_⟩:=run_append_own (P:=Tryz.prog) (w.alloc (.cells #[.string x] 9)) base 61 ty 9 i0 _ 1 16 Tryz.underlying61 hi hz0 hz1 hz2 (by kernel_rfl) (by decide) v l.length _ (h.alloc _) ⟨w.heap.size,0,none⟩ 1 1 [.string x] rfl (fun j u hj=>by
   rw[addr_add,cell_of hb]
   match j,hj with
   | 0,hj=>exact hj
   | k+1,hj=>simp at hj) (fun u hu=>by
   rcases List.mem_cons.1 hu with rfl|hu
   ·rfl
   cases hu) (by simp only[maxLen];omega) (by omega) (by rw[World.size_alloc];omega)
 refine⟨v',w',h1,?_,?_⟩
 ·simpa using h2
 ·exact((Keeps.refl (base≤·) w).alloc _).grown h3 (fun k hk=>.inl (h.lt k hk).1)
theorem texts_left (R:Rdr) (most:Int):∀k,(R.texts most k).2.s.size≤R.s.size
 | 0=>Nat.le_refl _
 | k+1=>by
  simp only[Rdr.texts]
  exact Nat.le_trans (text_left _ most) (texts_left R most k)
where
 text_left (R:Rdr) (most:Int):(R.text most).2.s.size≤R.s.size:=by
  unfold Rdr.text
  by_cases h0:R.e≠0
  ·rw[if_pos h0];exact Nat.le_refl _
  rw[if_neg h0]
  simp only
  by_cases ht:((if (R.num 2).2.e=0∧most<(R.num 2).1 then (⟨(R.num 2).2.s,6⟩:Rdr) else (R.num 2).2).take (R.num 2).1).2.e≠0
  ·rw[if_pos ht];exact Nat.le_refl _
  rw[if_neg ht]
  refine Nat.le_trans (take_left _ _) ?_
  split
  ·exact num_left R 2
  ·exact num_left R 2
theorem texts_length (R:Rdr) (most:Int):∀k,(R.texts most k).1.length=k
 | 0=>rfl
 | k+1=>by simp only[Rdr.texts,List.length_append,texts_length R most k];rfl
theorem num_one (R:Rdr):(R.num 1).1≤255:=by
 unfold Rdr.num
 split;exact(by decide:(0:Int)≤255)
 split;exact(by decide:(0:Int)≤255)
 have h1:(R.take 1).1.size≤1:=by
  unfold Rdr.take
  split;exact Nat.zero_le _
  split;exact Nat.zero_le _
  split;exact Nat.zero_le _
  simp only[ByteArray.size_extract];omega
 have h2:=getN_take (R.take 1).1.data.toList (R.take 1).1.data.toList.length (Nat.le_refl _)
 rw[List.take_length,size_toList]at h2
 have h3:256 ^ (R.take 1).1.size≤256 ^ 1:=Nat.pow_le_pow_right (by decide) h1
 have h4:(256:Nat) ^ 1=256:=by decide
 simp only
 omega
theorem own_keep {w w':World} {base n size:Nat} {v:Value} {e:TypeId} {xs:List Value} {F:Nat→Prop} (h:w.ownsRow base e size v n xs) (k:Keeps F w w') (hF:∀g,base≤g→¬F g):w'.ownsRow base e size v n xs:=by
 refine⟨h.1,?_⟩
 rcases h.2 with h2|⟨g,cap,cur,e1,r1,r2,r3⟩
 ·exact .inl h2
 ·exact .inr ⟨g,cap,cur,e1,r1,(k.block g (heap_lt r2) (hF g r1)).trans r2,r3⟩
def ListRead (l:List ByteArray) (b:Nat) (R:Rdr) (w:World) (e:Ending) (w':World):Prop :=
 ∃v,e=.returned v∧RdrAt w' b R∧Keeps (· = b) w w'∧StrsAt w' v l∧∀a n c,v=.slice (some a) n c→0<n→w.heap.size≤a.block
set_option maxHeartbeats 4000000 in
theorem RList_any (b:Nat) (R:Rdr) (many most:Int) (w:World) (h:RdrAt w b R) (hs:R.s.size≤9223372036854775807) :
  Calls Tryz.prog 167 #[.pointer (some ⟨b,0,none⟩),.int .i64 many,.int .i64 most] w (ListRead (R.list many most).1 b (R.list many most).2 w):=by
 have HE:=box (Err_any b R w h)
 have HN:=box (RNum_any b R 1 w h hs)
 have hl:=num_left R 1
 have hns:=num_small R 1
 obtain⟨c0,c1,f0,f1,hb⟩:=h.cells
 have H:=box h
 have Hb:=box hb
 clear h
 by_cases he:R.e=0
 ·rw[he]at c1 HE
  have hn255:=num_one R
  obtain⟨⟨n,s1,e1⟩,hN⟩:∃r,R.num 1=r:=⟨_,rfl⟩
  have hr:=box (show R.list many most=(if ((if e1=0∧many<n then (⟨s1,6⟩:Rdr) else ⟨s1,e1⟩).texts most n.toNat).2.e≠0 then ([],(⟨R.s,((if e1=0∧many<n then (⟨s1,6⟩:Rdr) else ⟨s1,e1⟩).texts most n.toNat).2.e⟩:Rdr)) else (if e1=0∧many<n then (⟨s1,6⟩:Rdr) else ⟨s1,e1⟩).texts most n.toNat) by unfold Rdr.list;rw[if_neg (fun h=>h he),hN])
  rw[hN]at HN hl hns hn255
  simp only at HN hl hns hn255
  obtain⟨hn0,_⟩:=hns
  have hsb:=box (Nat.le_trans hl hs)
  clear hN hl he hs
  obtain⟨m,rfl⟩:∃m:Nat,n=m:=⟨n.toNat,by omega⟩
  rw[Int.toNat_natCast]at hr
  obtain⟨R2,hR2⟩:∃R2:Rdr,(if e1=0∧many<(m:Int) then (⟨s1,6⟩:Rdr) else ⟨s1,e1⟩)=R2:=⟨_,rfl⟩
  rw[hR2]at hr
  have hs2:R2.s=s1:=by rw[←hR2];split<;>rfl
  have HT:=box (fun (k:Nat) (W:World) (hW:RdrAt W b (R2.texts most k).2)=>RText_any b (R2.texts most k).2 most W hW (Nat.le_trans (texts_left R2 most k) (by rw[hs2];exact hsb.out)))
  clear hs2
  go_enter Tryz.func167,Tryz.ntmps167
  go_wp2_with fail
  refine HE.out.mono ?_
  rintro e w1 ⟨rfl,rfl⟩
  go_wp2_with fail
  refine HN.out.mono ?_
  rintro e w2 ⟨rfl,hr2,hk2⟩
  have H2:=box hr2
  have K2:=box hk2
  obtain⟨d0,d1,g0,g1,hb2⟩:=hr2.cells
  simp only at d0 d1
  clear hr2 hk2 c0 c1 f0 f1 hb
  by_cases h1:e1=0∧many<(m:Int)
  ·obtain⟨rfl,hmn⟩:=h1
   rw[if_pos ⟨rfl,hmn⟩]at hR2
   have H3:=box (show RdrAt (w2.setCell ⟨b,1,none⟩ (.int .i64 6)) b R2 by rw[←hR2];exact H2.out.setE 6)
   clear hR2
   have K3:=box (K2.out.setCell (p:=⟨b,1,none⟩) (.inl rfl) (.int .i64 6))
   go_wp2_with fail
   go_loopw [9,33] (fun v i wr=>∃k:Nat,k≤m∧i=.int .i64 k∧RdrAt wr b (R2.texts most k).2∧wr.ownsRow w.heap.size 9 1 v (R2.texts most k).1.length ((R2.texts most k).1.map Value.string)∧Keeps (· = b) w wr) (fun _ i _=>m-(intOf i).toNat)
   case atStart=>exact⟨0,Nat.zero_le _,rfl,H3.out,World.ownsRow_nil _ _ _ _,K3.out⟩
   case round =>
    clear H3 K3
    obtain⟨k,hk,rfl,hrd,hrow,hkp⟩:=hrel
    have HR3:=box hrd
    have Hrow:=box hrow
    have HK:=box hkp
    clear hrd hrow hkp
    by_cases hlt:k<m
    ·have ht:=box (HT.out k wr HR3.out)
     have hnx:=box (show R2.texts most (k+1)=((R2.texts most k).1++[((R2.texts most k).2.text most).1],((R2.texts most k).2.text most).2) from rfl)
     have hlen:=box (texts_length R2 most k)
     obtain⟨⟨t,R4⟩,ht4⟩:∃r,(R2.texts most k).2.text most=r:=⟨_,rfl⟩
     rw[ht4]at ht hnx
     simp only at ht hnx
     clear ht4
     go_wp2_with fail
     refine ht.out.mono ?_
     rintro e w4 ⟨rfl,hr4,hk4⟩
     have Hsz:=box (Nat.le_trans HK.out.size hk4.size)
     obtain⟨v',W5,happ,hrow5,hk5⟩:=append_str w4 w.heap.size _ (R2.texts most k).1 t (own_keep Hrow.out hk4 (fun g hg e=>by have:=Hb.out;omega)) Hsz.out (by rw[hlen.out];omega) 61
     have Happ:=box happ
     have Hrow5:=box hrow5
     have HR5:=box (show RdrAt W5 b R4 from (hk5.block b (heap_lt hr4) (by have:=Hb.out;omega)).trans hr4)
     have HK5:=box (show Keeps (· = b) w W5 from ⟨hk5.os.trans (HK.out.trans' hk4).os,hk5.tape.trans (HK.out.trans' hk4).tape,hk5.output.trans (HK.out.trans' hk4).output,Nat.le_trans Hsz.out hk5.size,fun x hx hn=>(hk5.block x (Nat.lt_of_lt_of_le hx Hsz.out) (by omega)).trans ((HK.out.trans' hk4).block x hx hn)⟩)
     clear happ hrow5 hk5 hr4 hk4
     go_wp2_with (first|(at_builtin;refine Lib.wpList_append_run _ rfl _ _ _ _ rfl _ _ rfl rfl _ _ Happ.out ?_)|fail)
     go_roundw
     case rel=>exact⟨k+1,by omega,by go_num,by rw[hnx.out];exact HR5.out,by rw[hnx.out];exact Hrow5.out,HK5.out⟩
     case measure=>simp [intOf];omega
    ·obtain rfl:k=m:=by omega
     obtain⟨⟨L,s5,e5⟩,hT⟩:∃r,R2.texts most k=r:=⟨_,rfl⟩
     rw[hT]at hr HR3 Hrow
     simp only at hr HR3 Hrow
     clear hT HT
     have hst:=rc.strs_own Hrow.out
     obtain⟨va,vcap,rfl,_⟩:=hst.uni
     have Hst:=box hst
     have Hfr:=box (rc.own_from Hrow.out)
     obtain⟨q0,q1,r0,r1,hb4⟩:=HR3.out.cells
     simp only at q0 q1
     clear hst Hrow
     by_cases h5:e5=0
     ·subst h5
      have hr:=box (show R.list many most=(L,⟨s5,0⟩) by rw[hr.out,if_neg (fun h=>h rfl)])
      go_wp2_with fail
      go_ret
      exact⟨.slice va L.length vcap,rfl,by rw[hr.out];exact HR3.out,HK.out,by rw[hr.out];exact Hst.out,Hfr.out⟩
     ·have hr:=box (show R.list many most=([],⟨R.s,e5⟩) by rw[hr.out,if_pos h5])
      have he1:(e5==0)=false:=beq_eq_false_iff_ne.2 h5
      have he2:(e5 != 0)=true:=by rw[bne,he1];rfl
      have HF:=box (fails_any b ⟨s5,e5⟩ e5 R.s wr HR3.out)
      clear h5
      go_wp2_with fail
      refine HF.out.mono ?_
      rintro e w5 ⟨rfl,hr5,hk5⟩
      have H5:=box hr5
      have K5:=box (trans_b HK.out hk5)
      clear hr5 hk5
      go_wp2_with fail
      go_ret
      exact⟨.slice none 0 0,rfl,by rw[hr.out];exact H5.out,K5.out,by rw[hr.out];exact .inl ⟨rfl,none,0,rfl⟩,fun a n c e=>by cases e⟩
  ·rw[if_neg h1]at hR2
   have H3:=box (show RdrAt w2 b R2 by rw[←hR2];exact H2.out)
   clear hR2
   have K3:=K2
   by_cases h0:e1=0
   ·subst h0
    have hmn:decide (many<(m:Int))=false:=decide_eq_false (fun h=>h1 ⟨rfl,h⟩)
    clear h1
    go_wp2_with fail
    go_loopw [9,33] (fun v i wr=>∃k:Nat,k≤m∧i=.int .i64 k∧RdrAt wr b (R2.texts most k).2∧wr.ownsRow w.heap.size 9 1 v (R2.texts most k).1.length ((R2.texts most k).1.map Value.string)∧Keeps (· = b) w wr) (fun _ i _=>m-(intOf i).toNat)
    case atStart=>exact⟨0,Nat.zero_le _,rfl,H3.out,World.ownsRow_nil _ _ _ _,K3.out⟩
    case round =>
     clear H3 K3
     obtain⟨k,hk,rfl,hrd,hrow,hkp⟩:=hrel
     have HR3:=box hrd
     have Hrow:=box hrow
     have HK:=box hkp
     clear hrd hrow hkp
     by_cases hlt:k<m
     ·have ht:=box (HT.out k wr HR3.out)
      have hnx:=box (show R2.texts most (k+1)=((R2.texts most k).1++[((R2.texts most k).2.text most).1],((R2.texts most k).2.text most).2) from rfl)
      have hlen:=box (texts_length R2 most k)
      obtain⟨⟨t,R4⟩,ht4⟩:∃r,(R2.texts most k).2.text most=r:=⟨_,rfl⟩
      rw[ht4]at ht hnx
      simp only at ht hnx
      clear ht4
      go_wp2_with fail
      refine ht.out.mono ?_
      rintro e w4 ⟨rfl,hr4,hk4⟩
      have Hsz:=box (Nat.le_trans HK.out.size hk4.size)
      obtain⟨v',W5,happ,hrow5,hk5⟩:=append_str w4 w.heap.size _ (R2.texts most k).1 t (own_keep Hrow.out hk4 (fun g hg e=>by have:=Hb.out;omega)) Hsz.out (by rw[hlen.out];omega) 61
      have Happ:=box happ
      have Hrow5:=box hrow5
      have HR5:=box (show RdrAt W5 b R4 from (hk5.block b (heap_lt hr4) (by have:=Hb.out;omega)).trans hr4)
      have HK5:=box (show Keeps (· = b) w W5 from ⟨hk5.os.trans (HK.out.trans' hk4).os,hk5.tape.trans (HK.out.trans' hk4).tape,hk5.output.trans (HK.out.trans' hk4).output,Nat.le_trans Hsz.out hk5.size,fun x hx hn=>(hk5.block x (Nat.lt_of_lt_of_le hx Hsz.out) (by omega)).trans ((HK.out.trans' hk4).block x hx hn)⟩)
      clear happ hrow5 hk5 hr4 hk4
      go_wp2_with (first|(at_builtin;refine Lib.wpList_append_run _ rfl _ _ _ _ rfl _ _ rfl rfl _ _ Happ.out ?_)|fail)
      go_roundw
      case rel=>exact⟨k+1,by omega,by go_num,by rw[hnx.out];exact HR5.out,by rw[hnx.out];exact Hrow5.out,HK5.out⟩
      case measure=>simp [intOf];omega
     ·obtain rfl:k=m:=by omega
      obtain⟨⟨L,s5,e5⟩,hT⟩:∃r,R2.texts most k=r:=⟨_,rfl⟩
      rw[hT]at hr HR3 Hrow
      simp only at hr HR3 Hrow
      clear hT HT
      have hst:=rc.strs_own Hrow.out
      obtain⟨va,vcap,rfl,_⟩:=hst.uni
      have Hst:=box hst
      have Hfr:=box (rc.own_from Hrow.out)
      obtain⟨q0,q1,r0,r1,hb4⟩:=HR3.out.cells
      simp only at q0 q1
      clear hst Hrow
      by_cases h5:e5=0
      ·subst h5
       have hr:=box (show R.list many most=(L,⟨s5,0⟩) by rw[hr.out,if_neg (fun h=>h rfl)])
       go_wp2_with fail
       go_ret
       exact⟨.slice va L.length vcap,rfl,by rw[hr.out];exact HR3.out,HK.out,by rw[hr.out];exact Hst.out,Hfr.out⟩
      ·have hr:=box (show R.list many most=([],⟨R.s,e5⟩) by rw[hr.out,if_pos h5])
       have he1:(e5==0)=false:=beq_eq_false_iff_ne.2 h5
       have he2:(e5 != 0)=true:=by rw[bne,he1];rfl
       have HF:=box (fails_any b ⟨s5,e5⟩ e5 R.s wr HR3.out)
       clear h5
       go_wp2_with fail
       refine HF.out.mono ?_
       rintro e w5 ⟨rfl,hr5,hk5⟩
       have H5:=box hr5
       have K5:=box (trans_b HK.out hk5)
       clear hr5 hk5
       go_wp2_with fail
       go_ret
       exact⟨.slice none 0 0,rfl,by rw[hr.out];exact H5.out,K5.out,by rw[hr.out];exact .inl ⟨rfl,none,0,rfl⟩,fun a n c e=>by cases e⟩
   ·have hz1:(e1==0)=false:=beq_eq_false_iff_ne.2 h0
    clear h1 h0
    go_wp2_with fail
    go_loopw [9,33] (fun v i wr=>∃k:Nat,k≤m∧i=.int .i64 k∧RdrAt wr b (R2.texts most k).2∧wr.ownsRow w.heap.size 9 1 v (R2.texts most k).1.length ((R2.texts most k).1.map Value.string)∧Keeps (· = b) w wr) (fun _ i _=>m-(intOf i).toNat)
    case atStart=>exact⟨0,Nat.zero_le _,rfl,H3.out,World.ownsRow_nil _ _ _ _,K3.out⟩
    case round =>
     clear H3 K3
     obtain⟨k,hk,rfl,hrd,hrow,hkp⟩:=hrel
     have HR3:=box hrd
     have Hrow:=box hrow
     have HK:=box hkp
     clear hrd hrow hkp
     by_cases hlt:k<m
     ·have ht:=box (HT.out k wr HR3.out)
      have hnx:=box (show R2.texts most (k+1)=((R2.texts most k).1++[((R2.texts most k).2.text most).1],((R2.texts most k).2.text most).2) from rfl)
      have hlen:=box (texts_length R2 most k)
      obtain⟨⟨t,R4⟩,ht4⟩:∃r,(R2.texts most k).2.text most=r:=⟨_,rfl⟩
      rw[ht4]at ht hnx
      simp only at ht hnx
      clear ht4
      go_wp2_with fail
      refine ht.out.mono ?_
      rintro e w4 ⟨rfl,hr4,hk4⟩
      have Hsz:=box (Nat.le_trans HK.out.size hk4.size)
      obtain⟨v',W5,happ,hrow5,hk5⟩:=append_str w4 w.heap.size _ (R2.texts most k).1 t (own_keep Hrow.out hk4 (fun g hg e=>by have:=Hb.out;omega)) Hsz.out (by rw[hlen.out];omega) 61
      have Happ:=box happ
      have Hrow5:=box hrow5
      have HR5:=box (show RdrAt W5 b R4 from (hk5.block b (heap_lt hr4) (by have:=Hb.out;omega)).trans hr4)
      have HK5:=box (show Keeps (· = b) w W5 from ⟨hk5.os.trans (HK.out.trans' hk4).os,hk5.tape.trans (HK.out.trans' hk4).tape,hk5.output.trans (HK.out.trans' hk4).output,Nat.le_trans Hsz.out hk5.size,fun x hx hn=>(hk5.block x (Nat.lt_of_lt_of_le hx Hsz.out) (by omega)).trans ((HK.out.trans' hk4).block x hx hn)⟩)
      clear happ hrow5 hk5 hr4 hk4
      go_wp2_with (first|(at_builtin;refine Lib.wpList_append_run _ rfl _ _ _ _ rfl _ _ rfl rfl _ _ Happ.out ?_)|fail)
      go_roundw
      case rel=>exact⟨k+1,by omega,by go_num,by rw[hnx.out];exact HR5.out,by rw[hnx.out];exact Hrow5.out,HK5.out⟩
      case measure=>simp [intOf];omega
     ·obtain rfl:k=m:=by omega
      obtain⟨⟨L,s5,e5⟩,hT⟩:∃r,R2.texts most k=r:=⟨_,rfl⟩
      rw[hT]at hr HR3 Hrow
      simp only at hr HR3 Hrow
      clear hT HT
      have hst:=rc.strs_own Hrow.out
      obtain⟨va,vcap,rfl,_⟩:=hst.uni
      have Hst:=box hst
      have Hfr:=box (rc.own_from Hrow.out)
      obtain⟨q0,q1,r0,r1,hb4⟩:=HR3.out.cells
      simp only at q0 q1
      clear hst Hrow
      by_cases h5:e5=0
      ·subst h5
       have hr:=box (show R.list many most=(L,⟨s5,0⟩) by rw[hr.out,if_neg (fun h=>h rfl)])
       go_wp2_with fail
       go_ret
       exact⟨.slice va L.length vcap,rfl,by rw[hr.out];exact HR3.out,HK.out,by rw[hr.out];exact Hst.out,Hfr.out⟩
      ·have hr:=box (show R.list many most=([],⟨R.s,e5⟩) by rw[hr.out,if_pos h5])
       have he1:(e5==0)=false:=beq_eq_false_iff_ne.2 h5
       have he2:(e5 != 0)=true:=by rw[bne,he1];rfl
       have HF:=box (fails_any b ⟨s5,e5⟩ e5 R.s wr HR3.out)
       clear h5
       go_wp2_with fail
       refine HF.out.mono ?_
       rintro e w5 ⟨rfl,hr5,hk5⟩
       have H5:=box hr5
       have K5:=box (trans_b HK.out hk5)
       clear hr5 hk5
       go_wp2_with fail
       go_ret
       exact⟨.slice none 0 0,rfl,by rw[hr.out];exact H5.out,K5.out,by rw[hr.out];exact .inl ⟨rfl,none,0,rfl⟩,fun a n c e=>by cases e⟩
 ·have hr:R.list many most=([],R):=by unfold Rdr.list;rw[if_pos he]
  rw[hr]
  have he1:(R.e==0)=false:=beq_eq_false_iff_ne.2 he
  have he2:(R.e != 0)=true:=by rw[bne,he1];rfl
  clear hr he
  go_enter Tryz.func167,Tryz.ntmps167
  go_wp2_with fail
  refine HE.out.mono ?_
  rintro e w' ⟨rfl,rfl⟩
  go_wp2_with fail
  go_ret
  exact⟨_,rfl,H.out,Keeps.refl _ w,.inl ⟨rfl,none,0,rfl⟩,fun a n c e=>by cases e⟩
end Go.Proofs.YtiahjipoofeliaaGreatDoor.oc
