/- Lemmas for this claim. -/
import Derived.Stop.LaidErr
import Derived.Test.YtiahjipoofeliaaGreatDoorPk36
set_option maxRecDepth 100000
namespace Go.Proofs.YtiahjipoofeliaaGreatDoor.tp
open Go.ChangeShapes Go.WideShapes Go.ChangeAt Go.RowKit Go.ChangeMaps Go.MapKept
open rc oc cr dk sg
theorem fair_of {w:World} {m:MsgS} {kv:Value} (hk:StrsAt w kv m.keys) (hz:MsgZ m) (hs:Small m):Fair w m kv :=
 ⟨hk,hz.2.2.2.2.1,by have:=hs.2.2.2.1;omega,by have:=hs.1;omega⟩
abbrev MsgCells (w:World) (b:Nat) (m:MsgS) (kv:Value):Prop:=w.cell? ⟨b,0,none⟩=some (.int .i64 m.kind)∧w.cell? ⟨b,1,none⟩=some (.int .i64 m.queue)∧w.cell? ⟨b,2,none⟩=some (.int .i64 m.due)∧w.cell? ⟨b,3,none⟩=some (.int .i64 m.retry)∧w.cell? ⟨b,4,none⟩=some (.int .i64 m.ref)∧w.cell? ⟨b,5,none⟩=some (.int .i64 m.born)∧w.cell? ⟨b,6,none⟩=some (.string m.topic)∧w.cell? ⟨b,7,none⟩=some (.string m.tag)∧w.cell? ⟨b,8,none⟩=some (.string m.body)∧w.cell? ⟨b,9,none⟩=some kv
section
variable {W w w':World} {t p n r sb mb c m k:Nat} {D D' E:DiskS} {R R':RowS} {L:List (Nat×MsgS)} {last:Int} {F F' G G':Nat→Prop} {v v' iv:Value} {S S':TS}
theorem TpIn.keep {B:Nat→Prop} (h:TpIn W w t p n r sb mb D R L last F v iv) (hK:Keeps B w w') (hB:∀b,tfoot t r sb mb F v iv b→¬B b) (hc:Calm W w'):TpIn W w' t p n r sb mb D R L last F v iv :=
  ⟨⟨h.seg.disk.keep hK (fun b hb e=>hB b (.inl hb) e),⟨(hK.block r (heap_lt h.seg.row.at_) (fun e=>hB r (.inr (.inl (.inl rfl))) e)).trans h.seg.row.at_,row_same h.seg.row.row (fun g hg'=>hK.block g (h.seg.row.row.lt g hg').2 (fun e=>hB g (.inr (.inl (.inr hg'))) e)),h.seg.row.ok⟩,h.seg.tab,hc,h.seg.fW,h.seg.rW,h.seg.vW⟩,
   (hK.block t (heap_lt h.obj) (hB t (.inr (.inr (.inl rfl))))).trans h.obj,
   (hK.block sb (heap_lt h.sums) (hB sb (.inr (.inr (.inr (.inl rfl)))))).trans h.sums,
   row_same h.ids (fun g hg=>hK.block g (h.ids.lt g hg).2 (hB g (.inr (.inr (.inr (.inr (.inr hg))))))),
   h.sizes.same (hK.block mb h.sizes.lt (hB mb (.inr (.inr (.inr (.inr (.inl rfl))))))),h.apart,h.mF,h.tW,h.sW,h.mW⟩
theorem Tp.keep {B:Nat→Prop} (h:Tp W t p n S G w) (hK:Keeps B w w') (hB:∀b,G b→¬B b) (hc:Calm W w'):Tp W t p n S G w':=by
  obtain⟨r,sb,mb,F,v,iv,h1,h2⟩:=h.at_
  exact⟨⟨r,sb,mb,F,v,iv,h1.keep hK (fun b hb=>hB b ((h2 b).2 hb)) hc,h2⟩,h.holds,h.fit,h.size,h.head,h.born⟩
theorem step_not (h:Step G w G' w') {b:Nat} (hb:b<w.heap.size) (hn:¬G b):¬G' b:=fun e=>by
  rcases h.foot b e with h1|h1
  · exact hn h1
  · omega
abbrev Rq:=Nat×MsgS×Value
def encR (x:Rq):Value×Value:=(.int .i64 (x.1:Int),.agg (msgA x.2.1 x.2.2))
def numR (x:Rq):Nat×MsgS:=(x.1,x.2.1)
variable {mm:Nat} {A:List Rq}
end
theorem ints_same {w w':World} {v:Value} {l:List Int} (h:IntsAt w v l) (hs:∀b,v.ownBlock=some b→w'.heap[b]? = w.heap[b]?):IntsAt w' v l:=by
 obtain⟨a,cap,rfl,h2,h4⟩:=h
 refine⟨a,cap,rfl,h2,fun k hk=>?_⟩
 obtain⟨b,off,e,hb,hcell⟩:=h4 k hk
 subst e
 have hbb:=hs b rfl
 have hb':b<w'.heap.size:=by
  have hx:w'.heap[b]? = some w.heap[b]:=by rw[hbb];exact Array.getElem?_eq_getElem hb
  exact(Array.getElem?_eq_some_iff.1 hx).1
 refine⟨b,off,rfl,hb',?_⟩
 rw[←hcell]
 unfold World.cell?
 rw[hbb]
theorem own_ints {w:World} {B:Nat} {v:Value} {l:List Nat} (h:w.ownsRow B 3 1 v l.length (intN l)) (hl:l.length≤1000000):IntsAt w v (l.map fun (x:Nat)=>(x:Int)):=by
 rcases h.2 with ⟨rfl,hn⟩|⟨g,cap,cur,rfl,hb,hg,hnc,hcm,hcs,htake⟩
 ·have:l=[]:=List.eq_nil_of_length_eq_zero hn
  subst this
  exact⟨none,0,rfl,⟨Nat.zero_le _,Nat.zero_le _⟩,fun k hk=>absurd hk (Nat.not_lt_zero _)⟩
 ·refine⟨some ⟨g,0,none⟩,cap,by rw[List.length_map],⟨by rw[List.length_map];simp only[maxLen];omega,by rw[List.length_map];exact hnc⟩,fun k hk=>⟨g,0,rfl,heap_lt hg,?_⟩⟩
  rw[List.length_map]at hk
  have:=h.cells (g:=g) rfl k (.int .i64 (l[k]:Int)) (by simp [intN,hk])
  rw[add_lit]at this
  rw[Nat.zero_add,this,List.getElem_map]
section
variable {W w w':World} {t p n r sb mb c m k mm j:Nat} {D D' E:DiskS} {R R':RowS} {L:List (Nat×MsgS)} {last:Int} {F F' G G':Nat→Prop} {v v' iv:Value} {S S':TS} {T A:List Rq} {I:List Int}
structure Dr (W:World) (t p mm j:Nat) (S:TS) (G:Nat→Prop) (T A:List Rq) (I:List Int) (iv:Value) (w:World):Prop where
 tp:∃n,Tp W t p n S G w∧n≤1000
 able:Able S.D 1048576 200000
 recs:S.recs=A.map numR
 sub:∀x∈A,x∈T
 start:S.R.start=1024 * j
 fin:S.R.fin≤52000
 synced:S.R.synced≤S.R.fin
 map:MapIs w mm (.int .i64) (T.map encR)
 mG:¬G mm
 ids:IntsAt w iv I
 idG:∀b,iv.ownBlock=some b→¬G b∧b<w.heap.size
 msgs:∀x∈T,StrsAt W x.2.2 x.2.1.keys∧x.2.1.keys.length≤1000000
theorem Dr.others (h:Dr W t p mm j S G T A I iv w) (hS:Step G w G' w'):MapIs w' mm (.int .i64) (T.map encR)∧¬G' mm∧IntsAt w' iv I∧∀b,iv.ownBlock=some b→¬G' b∧b<w'.heap.size :=
 ⟨h.map.same (hS.keeps.block mm h.map.lt h.mG),step_not hS h.map.lt h.mG,ints_same h.ids (fun b hb=>hS.keeps.block b (h.idG b hb).2 (h.idG b hb).1),fun b hb=>⟨step_not hS (h.idG b hb).2 (h.idG b hb).1,Nat.lt_of_lt_of_le (h.idG b hb).2 hS.keeps.size⟩⟩
theorem tail_slice (b off len cap:Nat) (h1:1≤len) (hc:len≤cap) :
  ∃a':Addr,a'.block=b∧(∀W:World,(Instr.slice 69 (.slice (some ⟨b,off,none⟩) len cap) (some (.int .i64 1)) none none).run Tryz.prog W=.ok (.slice (some a') (len-1) (cap-1)) W)∧(1<cap→a'=⟨b,off+1,none⟩):=by
 have he:Tryz.prog.elem 69=3:=by kernel_rfl
 have hz:∀w:World,(Go.sizeOf 3).run Tryz.prog w=.ok 1 w:=Tryz.sizeOf3
 by_cases h0:cap=1
 ·refine⟨⟨b,off,none⟩,rfl,fun W=>?_,fun h=>by omega⟩
  have:=run_slice_l W 69 (some ⟨b,off,none⟩) len cap (by rw[he];exact Tryz.underlying69) .i64 1 (by omega) (by omega)
  rw[he,hz]at this
  refine this.trans ?_
  simp [Result.andThen,sliced,Addr.add,h0]
 ·refine⟨⟨b,off+1,none⟩,rfl,fun W=>?_,fun _=>rfl⟩
  have:=run_slice_l W 69 (some ⟨b,off,none⟩) len cap (by rw[he];exact Tryz.underlying69) .i64 1 (by omega) (by omega)
  rw[he,hz]at this
  refine this.trans ?_
  simp [Result.andThen,sliced,Addr.add,h0]
theorem Dr.tail {i:Int} {b off cap:Nat} (h:Dr W t p mm j S G T A (i :: I) (.slice (some ⟨b,off,none⟩) (I.length+1) cap) w) :
  ∃a',(∀W:World,(Instr.slice 69 (.slice (some ⟨b,off,none⟩) (I.length+1) cap) (some (.int .i64 1)) none none).run Tryz.prog W=.ok (.slice (some a') I.length (cap-1)) W)∧Dr W t p mm j S G T A I (.slice (some a') I.length (cap-1)) w∧w.cell? ⟨b,off,none⟩=some (.int .i64 i)∧b<w.heap.size:=by
 obtain⟨a,c,h1,⟨h2,h3⟩,h4⟩:=h.ids
 simp only[List.length_cons,Value.slice.injEq]at h1
 obtain⟨rfl,_,rfl⟩:=h1
 simp only[List.length_cons]at h2 h3
 obtain⟨a',e1,e2,e3⟩:=tail_slice b off (I.length+1) cap (by omega) h3
 obtain⟨b0,off0,q1,q2,q3⟩:=h4 0 (by simp)
 simp only[Option.some.injEq,Addr.mk.injEq]at q1
 obtain⟨rfl,rfl,_⟩:=q1
 refine⟨a',e2,⟨h.tp,h.able,h.recs,h.sub,h.start,h.fin,h.synced,h.map,h.mG,⟨some a',cap-1,rfl,⟨by omega,by omega⟩,fun k hk=>?_⟩,fun g hg=>?_,h.msgs⟩,by simpa using q3,q2⟩
 ·obtain⟨b1,off1,r1,r2,r3⟩:=h4 (k+1) (by simp;omega)
  simp only[Option.some.injEq,Addr.mk.injEq]at r1
  obtain⟨rfl,rfl,_⟩:=r1
  refine⟨b,off+1,by rw[e3 (by omega)],r2,?_⟩
  rw[show off+1+k=off+(k+1) by omega,r3]
  rfl
 ·have:g=b:=by
   have h5:some a'.block=some g:=hg
   rw[e1]at h5
   exact(Option.some.inj h5).symm
  subst this
  exact h.idG g rfl
theorem Dr.listed (h:Dr W t p mm j S G T A I iv w):((fromL S.recs 0).map (·.1)).map (fun (x:Nat)=>(x:Int))=A.map fun x=>(x.1:Int):=by
 have h1:fromL S.recs 0=S.recs:=List.filter_eq_self.2 (fun x _=>decide_eq_true (Int.natCast_nonneg _))
 rw[h1,h.recs,List.map_map,List.map_map];rfl
theorem Dr.cell {da:Option Addr} {dn dc:Nat} (h:Dr W t p mm j S G T A (A.map fun x=>(x.1:Int)) (.slice da dn dc) w) {i:Nat} (hi:i<A.length):∃b off,da=some ⟨b,off,none⟩∧b<w.heap.size∧w.cell? ⟨b,off+i,none⟩=some (.int .i64 (A[i].1:Int)):=by
 obtain⟨a,c,h1,_,h4⟩:=h.ids
 simp only[Value.slice.injEq]at h1
 obtain⟨rfl,_,rfl⟩:=h1
 obtain⟨b,off,q1,q2,q3⟩:=h4 i (by rw[List.length_map];exact hi)
 rw[List.getElem_map]at q3
 exact⟨b,off,q1,q2,q3⟩
end
section
variable {W w w':World} {g:Nat} {B:ByteArray}
set_option maxHeartbeats 8000000 in
theorem rCost_any (g:Nat) (B:ByteArray) (v1 v2 v3:Value) (m:MsgS) (kv:Value) (w:World) (hg:w.heap[g]? = some (.cells #[.string B,v1,v2,v3] 71 (0,0))) (hk:StrsAt w kv m.keys) (hs:∀s∈m.keys,s.size≤maxLen) (hz:m.topic.size≤maxLen∧m.tag.size≤maxLen∧m.body.size≤maxLen) (hB:B.size≤1000000) (he:B.size%1024=0∨B.size%1024+3≤1024) :
  Calls Tryz.prog 25 #[ptrTo g,.agg (msgA m kv)] w fun e w'=>e=.returned (.int .i64 (costP B.size m:Int))∧Calm w w':=by
 obtain⟨ka,kcap,hkv,_⟩:=hk.uni
 subst hkv
 obtain⟨W1,hW1⟩:∃W1,w.alloc (.cells (msgA m (.slice ka m.keys.length kcap)) 63)=W1:=⟨_,rfl⟩
 have J1:=box (show W1.heap[w.heap.size]? = some (.cells (msgA m (.slice ka m.keys.length kcap)) 63 (0,0)) by rw[←hW1];exact heap_new w _)
 have C1:=box (show Calm w W1 by rw[←hW1];exact(Calm.refl w).alloc _)
 have hrt:=box (rRight_any m (.slice ka m.keys.length kcap) W1 (hk.calm C1.out) hs hz)
 have Hg:=box hg
 have Hk:=box hk
 have c0:=cell_of J1.out 0
 have c1:=cell_of J1.out 1
 have c2:=cell_of J1.out 2
 have c3:=cell_of J1.out 3
 have c4:=cell_of J1.out 4
 have c5:=cell_of J1.out 5
 have c6:=cell_of J1.out 6
 have c7:=cell_of J1.out 7
 have c8:=cell_of J1.out 8
 have c9:=cell_of J1.out 9
 have clt:=heap_lt J1.out
 clear hg hk
 by_cases hR:RightP m
 ·rw[decide_eq_true hR]at hrt
  have hput:=box (fun (w':World) (hc:Calm W1 w')=>rPut_any m (.slice ka m.keys.length kcap) w' ((Hk.out.calm C1.out).calm hc) hR)
  by_cases hk0:m.kind=0
  ·have hc0:costP B.size m=0:=by unfold costP;rw[if_neg (fun h=>h.2 hk0)]
   rw[hc0]
   have t1:(m.kind==0)=true:=by rw[hk0];rfl
   clear hput hc0 hk0
   go_enter Tryz.func25,Tryz.ntmps25
   go_wp2_with fail
   (try rw[hW1])
   refine hrt.out.mono ?_
   rintro e w2 ⟨rfl,hc2⟩
   have J2:=box (heap_calm hc2 J1.out)
   have C2:=box (C1.out.trans hc2)
   clear hc2 c0 c1 c2 c3 c4 c5 c6 c7 c8 c9 clt
   have c0:=cell_of J2.out 0
   have c1:=cell_of J2.out 1
   have c2:=cell_of J2.out 2
   have c3:=cell_of J2.out 3
   have c4:=cell_of J2.out 4
   have c5:=cell_of J2.out 5
   have c6:=cell_of J2.out 6
   have c7:=cell_of J2.out 7
   have c8:=cell_of J2.out 8
   have c9:=cell_of J2.out 9
   have clt:=heap_lt J2.out
   go_wp2_with fail
   go_ret
   exact⟨rfl,C2.out⟩
  ·have hok:okM m:=⟨hR,hk0⟩
   have hb:=recB_bounds hok.1 hok.2
   have hpE:(putS RightP m).1=recB m:=by unfold putS;rw[if_neg (fun h=>h hR),if_neg hk0]
   obtain⟨res,hres,hcase⟩:∃res,costP B.size m=res∧((((recB m).size=1024-B.size%1024∨(recB m).size+3≤1024-B.size%1024)∧res=(recB m).size)∨((recB m).size≠1024-B.size%1024∧¬(recB m).size+3≤1024-B.size%1024∧res=1024-B.size%1024+(recB m).size)):=by
    refine⟨_,rfl,?_⟩
    unfold costP
    rw[if_pos hok,laid_len he]
    by_cases hg:goesIn B.size (recB m).size
    ·rw[if_pos hg];exact .inl ⟨hg,rfl⟩
    ·rw[if_neg hg];exact .inr ⟨fun h=>hg (.inl h),fun h=>hg (.inr h),rfl⟩
   rw[hpE]at hput
   rw[hres]
   obtain⟨rb,hrb⟩:∃rb,recB m=rb:=⟨_,rfl⟩
   rw[hrb]at hput hb hcase
   have t1:(m.kind==0)=false:=beq_eq_false_iff_ne.2 hk0
   obtain⟨bs,hbs⟩:∃bs,B.size=bs:=⟨_,rfl⟩
   rw[hbs]at hB he hcase
   obtain⟨rm,hrm⟩:∃rm,1024-bs%1024=rm:=⟨_,rfl⟩
   have e3:(1024:Int)-(bs:Int)%1024=(rm:Int):=by omega
   have hrm1:rm≤1024:=by omega
   obtain⟨rs,hrs⟩:∃rs,rb.size=rs:=⟨_,rfl⟩
   rw[hrs]at hb hcase
   rw[hrm]at hcase
   have Hcase:=box hcase
   clear hcase hk0 hrm
   go_enter Tryz.func25,Tryz.ntmps25
   go_wp2_with fail
   (try rw[hW1])
   refine hrt.out.mono ?_
   rintro e w2 ⟨rfl,hc2⟩
   have J2:=box (heap_calm hc2 J1.out)
   have HC2:=box hc2
   have C2:=box (C1.out.trans hc2)
   clear hc2 c0 c1 c2 c3 c4 c5 c6 c7 c8 c9 clt
   have c0:=cell_of J2.out 0
   have c1:=cell_of J2.out 1
   have c2:=cell_of J2.out 2
   have c3:=cell_of J2.out 3
   have c4:=cell_of J2.out 4
   have c5:=cell_of J2.out 5
   have c6:=cell_of J2.out 6
   have c7:=cell_of J2.out 7
   have c8:=cell_of J2.out 8
   have c9:=cell_of J2.out 9
   have clt:=heap_lt J2.out
   go_wp2_with fail
   refine(hput.out _ HC2.out).mono ?_
   rintro e w3 ⟨rfl,hc3⟩
   have C3:=box (C2.out.trans hc3)
   have J3:=box (heap_calm C3.out Hg.out)
   clear hc3 c0 c1 c2 c3 c4 c5 c6 c7 c8 c9 clt
   have g0:=cell_of J3.out 0
   have glt:=heap_lt J3.out
   clear hput J1 J2 hrt
   go_wp2_with fail
   all_goals
    go_ret
    refine⟨?_,C3.out⟩
    have hq:=Hcase.out
    simp only[beq_eq_false_iff_ne,beq_iff_eq,not_or,not_and,ne_eq,Bool.or_eq_true,Bool.or_eq_false_iff,decide_eq_true_eq,decide_eq_false_iff_not]at *
    refine ret_int ?_
    try omega
 ·rw[decide_eq_false hR]at hrt
  have hc0:costP B.size m=0:=by unfold costP;rw[if_neg (fun h=>hR h.1)]
  rw[hc0]
  clear hc0
  go_enter Tryz.func25,Tryz.ntmps25
  go_wp2_with fail
  (try rw[hW1])
  refine hrt.out.mono ?_
  rintro e w2 ⟨rfl,hc2⟩
  have C2:=box (C1.out.trans hc2)
  clear hc2 c0 c1 c2 c3 c4 c5 c6 c7 c8 c9 clt
  go_wp2_with fail
  go_ret
  exact⟨rfl,C2.out⟩
end
def msgRow (A:List Rq):List Value:=A.flatMap fun x=>(msgA x.2.1 x.2.2).toList
structure RT (W w:World) (g:Nat) (B:ByteArray) (bg:Nat) (A:List Rq) (iv lv:Value):Prop where
 obj:w.heap[g]? = some (.cells #[.string B,.int .i64 (bg:Int),iv,lv] 71 (0,0))
 ids:w.ownsRow W.heap.size 3 1 iv A.length (intN (A.map (·.1)))
 row:w.ownsRow W.heap.size 63 10 lv A.length (msgRow A)
 gW:W.heap.size≤g
 few:A.length≤1000
 msgs:∀x∈A,StrsAt W x.2.2 x.2.1.keys∧x.2.1.keys.length≤1000000
section
variable {W w w':World} {g bg:Nat} {B:ByteArray} {A:List Rq} {iv lv:Value}
theorem RT.calm (h:RT W w g B bg A iv lv) (hc:Calm w w'):RT W w' g B bg A iv lv:=⟨heap_calm hc h.obj,own_calm h.ids hc,own_calm h.row hc,h.gW,h.few,h.msgs⟩
theorem RT.cells (h:RT W w g B bg A iv lv):w.cell? ⟨g,0,none⟩=some (.string B)∧w.cell? ⟨g,1,none⟩=some (.int .i64 (bg:Int))∧w.cell? ⟨g,2,none⟩=some iv∧w.cell? ⟨g,3,none⟩=some lv∧g<w.heap.size :=
 ⟨cell_of h.obj 0,cell_of h.obj 1,cell_of h.obj 2,cell_of h.obj 3,heap_lt h.obj⟩
theorem RT.begun (h:RT W w g B bg A iv lv) (b2:Nat):RT W (w.setCell ⟨g,1,none⟩ (.int .i64 (b2:Int))) g B b2 A iv lv:=by
 have hi:iv.ownBlock≠some g:=fun e=>by obtain⟨c,hc⟩:=own_row h.ids e;rw[h.obj]at hc;simp at hc
 have hl:lv.ownBlock≠some g:=fun e=>by obtain⟨c,hc⟩:=own_row h.row e;rw[h.obj]at hc;simp at hc
 exact⟨heap_set h.obj 1 _,row_same h.ids (fun b hb=>heap_set_other (fun e=>hi (by rw[←e];exact hb)) _ _),row_same h.row (fun b hb=>heap_set_other (fun e=>hl (by rw[←e];exact hb)) _ _),h.gW,h.few,h.msgs⟩
end
section
variable {W w w' w2:World} {t t' p n g c k bg:Nat} {S S':TS} {G G':Nat→Prop} {B B2:ByteArray} {A:List Rq} {iv lv iv2 lv2:Value}
theorem RT.same (h:RT W w g B bg A iv lv) (hs:∀b,b=g∨iv.ownBlock=some b∨lv.ownBlock=some b→w'.heap[b]? = w.heap[b]?):RT W w' g B bg A iv lv :=
 ⟨(hs g (.inl rfl)).trans h.obj,row_same h.ids (fun b hb=>hs b (.inr (.inl hb))),row_same h.row (fun b hb=>hs b (.inr (.inr hb))),h.gW,h.few,h.msgs⟩
def RAppDone (W:World) (g:Nat) (B:ByteArray) (bg:Nat) (A:List Rq) (iv lv:Value) (m:MsgS) (kv:Value) (w:World) (e:Ending) (w':World):Prop :=
 e=.returned (.int .i64 (idP B.size m:Int))∧∃B2 iv2 lv2,B2.size=B.size+costP B.size m∧RT W w' g B2 bg (A++[(idP B.size m,m,kv)]) iv2 lv2∧Keeps (fun b=>b=g∨iv.ownBlock=some b∨lv.ownBlock=some b) w w' ∧
  (∀b,iv2.ownBlock=some b→iv.ownBlock=some b∨w.heap.size≤b)∧(∀b,lv2.ownBlock=some b→lv.ownBlock=some b∨w.heap.size≤b)
structure Py (W:World) (t p g c k:Nat) (S:TS) (G:Nat→Prop) (B:ByteArray) (A:List Rq) (iv lv:Value) (w:World):Prop where
 tp:∃n,Tp W t p n S G w∧n≤2 * k
 able:Able S.D c (1347 * k)
 synced:S.R.synced≤S.R.fin
 tight:Tight S.R
 rt:RT W w g B S.R.start A iv lv
 size:B.size=S.R.fin
 fin:S.R.fin≤1345 * k
 recs:S.recs=(A.filter fun x=>decide (S.R.start≤x.1)).map numR
 rise:A.Pairwise (fun x y=>x.1<y.1)
 below:∀x∈A,x.1<S.R.fin
 gG:¬G g
 ivG:∀b,iv.ownBlock=some b→¬G b
 lvG:∀b,lv.ownBlock=some b→¬G b
 few:A.length≤k
theorem Py.disk (h:Py W t p g c k S G B A iv lv w):∃n F,DiskOk w p S.D F n:=by
 obtain⟨n,h1,_⟩:=h.tp
 obtain⟨r,sb,mb,F,v,iw,hT,_⟩:=h1.at_
 exact⟨_,_,hT.seg.disk⟩
theorem cost_pos {e:Nat} {m:MsgS} (h:okM m):0<costP e m:=by
 have hb:=recB_bounds h.1 h.2
 unfold costP
 rw[if_pos h]
 unfold laidP
 split
 ·rw[flat_len_cons,Pc.len_one];omega
 ·rw[flat_len_cons,flat_len_cons,Pc.len_one];omega
end
section
variable {W w w' w2:World} {g bg:Nat} {B:ByteArray} {A:List Rq} {iv lv:Value}
end
section
variable {W w w' w2:World} {g bg:Nat} {B B2:ByteArray} {I:List Nat} {A:List Rq} {iv lv:Value}
theorem infoByte:(Tryz.prog.info? 5).map (fun i=>(i.zero,i.size,i.bytes))=some (some (.int .u8 0),1,1):=by kernel_rfl
theorem infoMsg:(Tryz.prog.info? 63).map (fun i=>(i.zero,i.size,i.bytes))=some (some (.agg zeroA),10,120):=by kernel_rfl
theorem msg_cells (m:MsgS) (kv:Value):(msgA m kv).toList.length=10:=rfl
theorem msgRow_len (A:List Rq):(msgRow A).length=A.length * 10:=by
 unfold msgRow
 induction A with
 | nil=>rfl
 | cons x A ih=>rw[List.flatMap_cons,List.length_append,ih,msg_cells,List.length_cons];omega
theorem append_msg (w:World) (v:Value) (A:List Rq) (x:Rq) (g0:Nat) (hk:∃a n c,x.2.2=.slice a n c) (h:w.ownsRow 0 63 10 v A.length (msgRow A)) (hb:w.heap[g0]? = some (.cells (msgA x.2.1 x.2.2) 63 (0,0))) (hl:A.length≤1000000) (ty:TypeId) :
  ∃v' w',(Builtin.append_ #[55,55] ty #[v,.slice (some ⟨g0,0,none⟩) 1 1]).run Tryz.prog w=.ok v' w' ∧
   w'.ownsRow 0 63 10 v' (A++[x]).length (msgRow (A++[x]))∧Keeps (fun g=>v.ownBlock=some g) w w'∧∀g,v'.ownBlock=some g→v.ownBlock=some g∨w.heap.size≤g:=by
 obtain⟨i0,hi,hz0,hz1,hz2⟩:=info_parts infoMsg
 obtain⟨ka,kn,kc,hkv⟩:=hk
 obtain⟨v',w',h1,h2,h3,h4⟩:=append_own (P:=Tryz.prog) w 55 ty 63 i0 _ 10 120 Tryz.underlying55 hi hz0 hz1 hz2 (by kernel_rfl) (by decide) v A.length _ h ⟨g0,0,none⟩ 1 1 (by decide) (msgA x.2.1 x.2.2).toList rfl (fun j u hj=>by
   rw[add_lit,cell_of hb]
   match j,hj with
   | 0,hj=>exact hj
   | 1,hj=>exact hj
   | 2,hj=>exact hj
   | 3,hj=>exact hj
   | 4,hj=>exact hj
   | 5,hj=>exact hj
   | 6,hj=>exact hj
   | 7,hj=>exact hj
   | 8,hj=>exact hj
   | 9,hj=>exact hj
   | k+10,hj=>simp [msgA]at hj) (fun u hu=>by
   rw[hkv]at hu
   simp only[msgA,List.mem_cons,List.not_mem_nil,or_false]at hu
   rcases hu with rfl|rfl|rfl|rfl|rfl|rfl|rfl|rfl|rfl|rfl<;>rfl) (by simp only[maxLen];omega) (by omega)
 have hg:∀g,v'.ownBlock=some g→v.ownBlock=some g∨w.heap.size≤g:=fun g hg=>by
  rcases h4 with h4|h4
  ·exact .inl (h4.symm.trans hg)
  ·rw[h4]at hg;cases hg;exact .inr (Nat.le_refl _)
 refine⟨v',w',h1,?_,h3,hg⟩
 have e:msgRow (A++[x])=msgRow A++(msgA x.2.1 x.2.2).toList:=by unfold msgRow;rw[List.flatMap_append];simp
 rw[e,List.length_append,List.length_singleton]
 exact h2
structure RTm (W w:World) (g:Nat) (B:ByteArray) (bg:Nat) (I:List Nat) (A:List Rq) (iv lv:Value):Prop where
 obj:w.heap[g]? = some (.cells #[.string B,.int .i64 (bg:Int),iv,lv] 71 (0,0))
 ids:w.ownsRow W.heap.size 3 1 iv I.length (intN I)
 row:w.ownsRow W.heap.size 63 10 lv A.length (msgRow A)
theorem RTm.calm (h:RTm W w g B bg I A iv lv) (hc:Calm w w'):RTm W w' g B bg I A iv lv:=⟨heap_calm hc h.obj,own_calm h.ids hc,own_calm h.row hc⟩
theorem RTm.cells (h:RTm W w g B bg I A iv lv):w.cell? ⟨g,0,none⟩=some (.string B)∧w.cell? ⟨g,1,none⟩=some (.int .i64 (bg:Int))∧w.cell? ⟨g,2,none⟩=some iv∧w.cell? ⟨g,3,none⟩=some lv∧g<w.heap.size :=
 ⟨cell_of h.obj 0,cell_of h.obj 1,cell_of h.obj 2,cell_of h.obj 3,heap_lt h.obj⟩
theorem RTm.apart (h:RTm W w g B bg I A iv lv):iv.ownBlock≠some g∧lv.ownBlock≠some g∧∀b,iv.ownBlock=some b→lv.ownBlock≠some b:=by
 refine⟨fun e=>?_,fun e=>?_,fun b e1 e2=>?_⟩
 ·obtain⟨c,hc⟩:=own_row h.ids e;rw[h.obj]at hc;simp at hc
 ·obtain⟨c,hc⟩:=own_row h.row e;rw[h.obj]at hc;simp at hc
 ·obtain⟨c,hc⟩:=own_row h.ids e1
  obtain⟨d,hd⟩:=own_row h.row e2
  rw[hc]at hd;simp at hd
theorem RTm.text (h:RTm W w g B bg I A iv lv) (B2:ByteArray):RTm W (w.setCell ⟨g,0,none⟩ (.string B2)) g B2 bg I A iv lv∧Keeps (fun b=>b=g∨iv.ownBlock=some b∨lv.ownBlock=some b) w (w.setCell ⟨g,0,none⟩ (.string B2)):=by
 obtain⟨hi,hl,_⟩:=h.apart
 exact⟨⟨heap_set h.obj 0 _,row_same h.ids (fun b hb=>heap_set_other (fun e=>hi (by rw[←e];exact hb)) _ _),row_same h.row (fun b hb=>heap_set_other (fun e=>hl (by rw[←e];exact hb)) _ _)⟩,(Keeps.refl (fun b=>b=g∨iv.ownBlock=some b∨lv.ownBlock=some b) w).setCell (p:=⟨g,0,none⟩) (.inl (.inl rfl)) _⟩
theorem RTm.id (h:RTm W w g B bg I A iv lv) (hW:W.heap.size≤w.heap.size) (hI:I.length≤1000) (x:Nat) :
  ∃iv2 w2,(Builtin.append_ #[69,69] 69 #[iv,.slice (some ⟨w.heap.size,0,none⟩) 1 1]).run Tryz.prog (w.alloc (.cells #[.int .i64 (x:Int)] 3))=.ok iv2 w2∧w2.heap[g]? = some (.cells #[.string B,.int .i64 (bg:Int),iv,lv] 71 (0,0)) ∧
   RTm W (w2.setCell ⟨g,2,none⟩ iv2) g B bg (I++[x]) A iv2 lv∧Keeps (fun b=>b=g∨iv.ownBlock=some b∨lv.ownBlock=some b) w (w2.setCell ⟨g,2,none⟩ iv2)∧∀b,iv2.ownBlock=some b→iv.ownBlock=some b∨w.heap.size≤b:=by
 obtain⟨hi,hl,ha⟩:=h.apart
 obtain⟨iv2,w2,e1,e2,e3,e4⟩:=append_place (w.alloc (.cells #[.int .i64 (x:Int)] 3)) iv I x w.heap.size (row_zero (own_calm h.ids ((Calm.refl w).alloc _))) (heap_new _ _) (by omega) 69
 have hg:=heap_lt h.obj
 have hk:Keeps (fun b=>iv.ownBlock=some b) w w2:=((Keeps.refl (fun b=>iv.ownBlock=some b) w).alloc _).trans' e3
 have e5:∀b,iv2.ownBlock=some b→iv.ownBlock=some b∨w.heap.size≤b:=fun b hb=>by
  rcases e4 b hb with h1|h1
  ·exact .inl h1
  ·rw[World.size_alloc]at h1;exact .inr (by omega)
 have ho:w2.heap[g]? = some (.cells #[.string B,.int .i64 (bg:Int),iv,lv] 71 (0,0)):=(hk.block g hg hi).trans h.obj
 have hne:∀b,iv2.ownBlock=some b→b≠g:=fun b hb e=>by
  rcases e5 b hb with h1|h1
  ·exact hi (by rw[←e];exact h1)
  ·omega
 refine⟨iv2,w2,e1,ho,⟨heap_set ho 2 _,?_,?_⟩,?_,e5⟩
 ·refine row_same (row_base e2 (fun b hb=>?_)) (fun b hb=>heap_set_other (hne b hb) _ _)
  rcases e5 b hb with h1|h1
  ·exact(h.ids.lt b h1).1
  ·omega
 ·refine row_same (row_same h.row (fun b hb=>hk.block b (h.row.lt b hb).2 (fun e=>ha b e hb))) (fun b hb=>heap_set_other (fun e=>hl (by rw[←e];exact hb)) _ _)
 ·exact(hk.mono (G:=fun b=>b=g∨iv.ownBlock=some b∨lv.ownBlock=some b) (fun b _ hb=>.inr (.inl hb))).setCell (p:=⟨g,2,none⟩) (.inl (.inl rfl)) _
theorem RTm.rec_ (h:RTm W w g B bg I A iv lv) (hW:W.heap.size≤w.heap.size) (hA:A.length≤1000) (x:Rq) (hkx:∃a n c,x.2.2=.slice a n c) :
  ∃lv2 w2,(Builtin.append_ #[55,55] 55 #[lv,.slice (some ⟨w.heap.size,0,none⟩) 1 1]).run Tryz.prog (w.alloc (.cells (msgA x.2.1 x.2.2) 63))=.ok lv2 w2∧w2.heap[g]? = some (.cells #[.string B,.int .i64 (bg:Int),iv,lv] 71 (0,0)) ∧
   RTm W (w2.setCell ⟨g,3,none⟩ lv2) g B bg I (A++[x]) iv lv2∧Keeps (fun b=>b=g∨lv.ownBlock=some b) w (w2.setCell ⟨g,3,none⟩ lv2)∧∀b,lv2.ownBlock=some b→lv.ownBlock=some b∨w.heap.size≤b:=by
 obtain⟨hi,hl,ha⟩:=h.apart
 obtain⟨lv2,w2,e1,e2,e3,e4⟩:=append_msg (w.alloc (.cells (msgA x.2.1 x.2.2) 63)) lv A x w.heap.size hkx (row_zero (own_calm h.row ((Calm.refl w).alloc _))) (heap_new _ _) (by omega) 55
 have hg:=heap_lt h.obj
 have hk:Keeps (fun b=>lv.ownBlock=some b) w w2:=((Keeps.refl (fun b=>lv.ownBlock=some b) w).alloc _).trans' e3
 have e5:∀b,lv2.ownBlock=some b→lv.ownBlock=some b∨w.heap.size≤b:=fun b hb=>by
  rcases e4 b hb with h1|h1
  ·exact .inl h1
  ·rw[World.size_alloc]at h1;exact .inr (by omega)
 have ho:w2.heap[g]? = some (.cells #[.string B,.int .i64 (bg:Int),iv,lv] 71 (0,0)):=(hk.block g hg hl).trans h.obj
 have hne:∀b,lv2.ownBlock=some b→b≠g:=fun b hb e=>by
  rcases e5 b hb with h1|h1
  ·exact hl (by rw[←e];exact h1)
  ·omega
 refine⟨lv2,w2,e1,ho,⟨heap_set ho 3 _,?_,?_⟩,?_,e5⟩
 ·refine row_same (row_same h.ids (fun b hb=>hk.block b (h.ids.lt b hb).2 (fun e=>ha b hb e))) (fun b hb=>heap_set_other (fun e=>hi (by rw[←e];exact hb)) _ _)
 ·refine row_same (row_base e2 (fun b hb=>?_)) (fun b hb=>heap_set_other (hne b hb) _ _)
  rcases e5 b hb with h1|h1
  ·exact(h.row.lt b h1).1
  ·omega
 ·exact(hk.mono (G:=fun b=>b=g∨lv.ownBlock=some b) (fun b _ hb=>.inr hb)).setCell (p:=⟨g,3,none⟩) (.inl (.inl rfl)) _
theorem made_zeros (w:World) (n:Nat) (hn:n≤1024):(Instr.makeSlice 130 (.int .i64 (n:Int)) (.int .i64 (n:Int))).run Tryz.prog w=.ok (.slice (some ⟨w.heap.size,0,none⟩) n n) (w.alloc (.cells (madeCells #[Value.int .u8 0] n) 5)) ∧
  (convert 130 9 (.slice (some ⟨w.heap.size,0,none⟩) n n)).run Tryz.prog (w.alloc (.cells (madeCells #[Value.int .u8 0] n) 5))=.ok (.string (zerosB n)) (w.alloc (.cells (madeCells #[Value.int .u8 0] n) 5)):=by
 obtain⟨i0,hi,hz0,hz1,hz2⟩:=info_parts infoByte
 have hmk:=run_make (P:=Tryz.prog) w 130 5 i0 _ Tryz.underlying130 hi hz0 .i64 .i64 n n (by omega) (Int.le_refl _) (by rw[hz2];omega) (by omega)
 simp only[hz1,Int.toNat_natCast,Nat.mul_one]at hmk
 have hback:=conv_string (P:=Tryz.prog) _ 130 9 5 Tryz.underlying130 Tryz.underlying5 Tryz.underlying9 (oc.made_bytes w n) n
 rw[List.length_replicate]at hback
 exact⟨hmk,hback⟩
theorem RTm.done {m:MsgS} {kv:Value} (h:RTm W w' g B bg (A.map (·.1)++[idP B2.size m]) (A++[(idP B2.size m,m,kv)]) iv lv) (hg:W.heap.size≤g) (hA:A.length<1000) (hm:∀x∈A,StrsAt W x.2.2 x.2.1.keys∧x.2.1.keys.length≤1000000) (hk:StrsAt W kv m.keys) (hkl:m.keys.length≤1000000) :
  RT W w' g B bg (A++[(idP B2.size m,m,kv)]) iv lv:=by
 have e:A.map (·.1)++[idP B2.size m]=(A++[(idP B2.size m,m,kv)]).map (·.1):=by rw[List.map_append];rfl
 have h1:=h.ids
 rw[e,List.length_map]at h1
 refine⟨h.obj,h1,h.row,hg,by rw[List.length_append,List.length_singleton];omega,fun x hx=>?_⟩
 rcases List.mem_append.1 hx with hx|hx
 ·exact hm x hx
 ·rw[List.mem_singleton]at hx;subst hx;exact⟨hk,hkl⟩
end
section
variable {W w w' w2:World} {g bg:Nat} {B:ByteArray} {A:List Rq} {iv lv:Value}
set_option maxHeartbeats 16000000 in
theorem rAppend_any (m:MsgS) (kv:Value) (w:World) (h:RT W w g B bg A iv lv) (hcW:Calm W w) (hkW:StrsAt W kv m.keys) (hkl:m.keys.length≤1000000) (hs:∀s∈m.keys,s.size≤maxLen) (hz:m.topic.size≤maxLen∧m.tag.size≤maxLen∧m.body.size≤maxLen) (hok:okM m) (hB:B.size≤1000000) (he:B.size%1024=0∨B.size%1024+3≤1024) (hA:A.length<1000) :
  Calls Tryz.prog 27 #[ptrTo g,.agg (msgA m kv)] w (RAppDone W g B bg A iv lv m kv w):=by
 have hkw:=hkW.calm hcW
 obtain⟨ka,kcap,hkv,_⟩:=hkw.uni
 subst hkv
 have H:=box h
 obtain⟨ia,inn,ic,rfl⟩:=row_slice h.ids
 obtain⟨lla,lnn,lc,rfl⟩:=row_slice h.row
 have hfoot:∀b,(b=g∨(Value.slice ia inn ic).ownBlock=some b∨(Value.slice lla lnn lc).ownBlock=some b)→W.heap.size≤b:=fun b hb=>by
  rcases hb with rfl|hb|hb
  ·exact h.gW
  ·exact(h.ids.lt b hb).1
  ·exact(h.row.lt b hb).1
 have hown:¬(w.heap.size=g∨(Value.slice ia inn ic).ownBlock=some w.heap.size∨(Value.slice lla lnn lc).ownBlock=some w.heap.size):=fun hb=>by
  rcases hb with hb|hb|hb
  ·have:=heap_lt h.obj;omega
  ·have:=(h.ids.lt _ hb).2;omega
  ·have:=(h.row.lt _ hb).2;omega
 have hM:RTm W w g B bg (A.map (·.1)) A (.slice ia inn ic) (.slice lla lnn lc):=⟨h.obj,by rw[List.length_map];exact h.ids,h.row⟩
 have hid0:idP B.size m=if goesIn B.size (recB m).size then B.size else B.size+roomAt B.size:=rfl
 have hcost0:costP B.size m=if goesIn B.size (recB m).size then (recB m).size else roomAt B.size+(recB m).size:=by
  have:costP B.size m=(flat (laidP B.size m)).length:=by unfold costP;rw[if_pos hok]
  rw[this,laid_len he]
 obtain⟨W1,hW1⟩:∃W1,w.alloc (.cells (msgA m (.slice ka m.keys.length kcap)) 63)=W1:=⟨_,rfl⟩
 have J1:=box (show W1.heap[w.heap.size]? = some (.cells (msgA m (.slice ka m.keys.length kcap)) 63 (0,0)) by rw[←hW1];exact heap_new w _)
 have C1:=box (show Calm w W1 by rw[←hW1];exact(Calm.refl w).alloc _)
 have hput:=box (fun (w':World) (hc:Calm W1 w')=>rPut_any m (.slice ka m.keys.length kcap) w' ((hkw.calm C1.out).calm hc) hok.1)
 have hpE:(putS RightP m).1=recB m:=by unfold putS;rw[if_neg (fun h=>h hok.1),if_neg hok.2]
 rw[hpE]at hput
 have hcost:=box (fun (w':World) (hc:Calm W1 w')=>rCost_any g B _ _ _ m (.slice ka m.keys.length kcap) w' (heap_calm (C1.out.trans hc) h.obj) ((hkw.calm C1.out).calm hc) hs hz hB he)
 have hb:=recB_bounds hok.1 hok.2
 have hM':=box hM
 have HA:=box hA
 obtain⟨rb,hrb⟩:∃rb,recB m=rb:=⟨_,rfl⟩
 rw[hrb]at hput hid0 hcost0 hb
 obtain⟨⟨kd,q,du,rt,rf,bn,tp,tg,bd,ks⟩,hmE⟩:∃m',m=m':=⟨_,rfl⟩
 subst hmE
 simp only at J1 hput hcost hkW hkl W1 hW1
 have c0:=cell_of J1.out 0
 have c1:=cell_of J1.out 1
 have c2:=cell_of J1.out 2
 have c3:=cell_of J1.out 3
 have c4:=cell_of J1.out 4
 have c5:=cell_of J1.out 5
 have c6:=cell_of J1.out 6
 have c7:=cell_of J1.out 7
 have c8:=cell_of J1.out 8
 have c9:=cell_of J1.out 9
 have clt:=heap_lt J1.out
 clear h hM hs hz hok hpE hrb hkw
 go_enter Tryz.func27,Tryz.ntmps27
 go_wp2_with fail
 (try rw[hW1])
 refine(hput.out _ (Calm.refl _)).mono ?_
 rintro e w2 ⟨rfl,hc2⟩
 have J2:=box (heap_calm hc2 J1.out)
 have HC2:=box hc2
 clear hc2 c0 c1 c2 c3 c4 c5 c6 c7 c8 c9 clt
 have c0:=cell_of J2.out 0
 have c1:=cell_of J2.out 1
 have c2:=cell_of J2.out 2
 have c3:=cell_of J2.out 3
 have c4:=cell_of J2.out 4
 have c5:=cell_of J2.out 5
 have c6:=cell_of J2.out 6
 have c7:=cell_of J2.out 7
 have c8:=cell_of J2.out 8
 have c9:=cell_of J2.out 9
 have clt:=heap_lt J2.out
 by_cases hg:goesIn B.size rb.size
 ·rw[if_pos hg]at hid0 hcost0
  have hid:=hid0
  have hbt:B.size+rb.size=B.size+costP B.size ⟨kd,q,du,rt,rf,bn,tp,tg,bd,ks⟩:=by rw[hcost0]
  rw[hcost0]at hcost
  have t1:decide ((0:Int)<(rb.size:Int)-(rb.size:Int))=false:=decide_eq_false (by omega)
  clear hid0 hcost0 hg
  go_wp2_with fail
  refine(hcost.out _ HC2.out).mono ?_
  rintro e w3 ⟨rfl,hc3⟩
  have HC3:=box (C1.out.trans (HC2.out.trans hc3))
  have HM:=box (hM'.out.calm HC3.out)
  have HJ:=box (heap_calm hc3 J2.out)
  have HK:=box (Keeps.of_calm (F:=fun b=>b=g∨(Value.slice ia inn ic).ownBlock=some b∨(Value.slice lla lnn lc).ownBlock=some b) HC3.out)
  clear hc3 c0 c1 c2 c3 c4 c5 c6 c7 c8 c9 clt hput hcost hM' J1 J2 HC2 C1 HC3
  obtain⟨hci1,hci2,hci3,hci4,hci5⟩:=HM.out.cells
  have hfz:=free_of HM.out.obj 0
  have hsum:B.size+rb.size≤9223372036854775807:=by omega
  obtain⟨hM6,hK6⟩:=HM.out.text (B++rb)
  have hcz6:Calm W (w3.setCell ⟨g,0,none⟩ (.string (B++rb))):=Below.trans hcW ((HK.out.trans' hK6).below hcW.size hfoot)
  have hJ6:=(hK6.block w.heap.size (heap_lt HJ.out) hown).trans HJ.out
  have M6:=box hM6
  have K6:=box (HK.out.trans' hK6)
  have Z6:=box hcz6
  have J6:=box hJ6
  have F_:=box hfoot
  have O_:=box hown
  have X_:=box (And.intro hid hbt)
  have Y_:=box hcW
  have V_:=box hkW
  clear hM6 hK6 hcz6 hJ6 hfoot hown hid hbt hcW hkW HM HK HJ
  go_upto_region 7 with fail
  obtain⟨w6,hw6⟩:∃w6,w3.setCell ⟨g,0,none⟩ (.string (B++rb))=w6:=⟨_,rfl⟩
  rw[hw6]at M6 K6 Z6 J6 ⊢
  clear hw6 hci1 hci2 hci3 hci4 hci5 hfz
  obtain⟨iv2,w7,happ7,ho7,hM7,hk7,hg7⟩:=M6.out.id Z6.out.size (by rw[List.length_map];omega) B.size
  obtain⟨ia2,in2,ic2,rfl⟩:=row_slice hM7.ids
  have Happ7:=box happ7
  have M7:=box hM7
  have K7:=box (K6.out.trans' hk7)
  have J7:=box ((hk7.block w.heap.size (heap_lt J6.out) O_.out).trans J6.out)
  have Z7:=box (show Calm W (w7.setCell ⟨g,2,none⟩ (.slice ia2 in2 ic2)) from Below.trans Y_.out (K7.out.below Y_.out.size F_.out))
  have G7:=box hg7
  obtain⟨k61,k62,k63,k64,k65⟩:=M6.out.cells
  have e72:w7.cell? ⟨g,2,none⟩=some (.slice ia inn ic):=cell_of ho7 2
  have f72:=free_of ho7 2
  have l7:=heap_lt ho7
  clear happ7 ho7 hM7 hk7 hg7 M6 J6 Z6
  go_upto_region 8 with (first|(at_builtin;refine Lib.wpList_append_run _ rfl _ _ _ _ rfl _ _ rfl rfl _ _ Happ7.out ?_)|fail)
  obtain⟨w8,hw8⟩:∃w8,w7.setCell ⟨g,2,none⟩ (.slice ia2 in2 ic2)=w8:=⟨_,rfl⟩
  rw[hw8]at M7 K7 J7 Z7 ⊢
  clear hw8 k61 k62 k63 k64 k65 e72 f72 l7 Happ7
  have M8:=box (M7.out.calm (show Calm w8 w8.drew from (Calm.refl _).drew))
  obtain⟨lv2,w9,happ9,ho9,hM9,hk9,hg9⟩:=M8.out.rec_ (by exact Z7.out.size) (by omega) (B.size,⟨kd,q,du,rt,rf,bn,tp,tg,bd,ks⟩,.slice ka ks.length kcap) ⟨_,_,_,rfl⟩
  obtain⟨la2,ln2,lc2,rfl⟩:=row_slice hM9.row
  have Happ9:=box happ9
  have hsz7:w.heap.size≤w6.heap.size:=K6.out.size
  have hsz9:w.heap.size≤w8.drew.heap.size:=K7.out.size
  have HD:=box (show RAppDone W g B bg A (.slice ia inn ic) (.slice lla lnn lc) ⟨kd,q,du,rt,rf,bn,tp,tg,bd,ks⟩ (.slice ka ks.length kcap) w (.returned (.int .i64 (B.size:Int))) (w9.setCell ⟨g,3,none⟩ (.slice la2 ln2 lc2)) from by
   obtain⟨hid,hbt⟩:=X_.out
   refine⟨by rw[hid],B++rb,.slice ia2 in2 ic2,.slice la2 ln2 lc2,by rw[ByteArray.size_append];exact hbt,?_,?_,?_,?_⟩
   ·have h9:=hM9
    rw[←hid]at h9
    exact RTm.done (B2:=B) h9 H.out.gW hA H.out.msgs V_.out hkl
   ·exact(K7.out.drew).trans' (hk9.mono fun b _ hb=>by
     rcases hb with hb|hb
     ·exact .inl hb
     ·exact .inr (.inr hb))
   ·intro b hb
    rcases G7.out b hb with h1|h1
    ·exact .inl h1
    ·exact .inr (Nat.le_trans hsz7 h1)
   ·intro b hb
    rcases hg9 b hb with h1|h1
    ·exact .inl h1
    ·exact .inr (Nat.le_trans hsz9 h1))
  have e93:w9.cell? ⟨g,3,none⟩=some (.slice lla lnn lc):=cell_of ho9 3
  have f93:=free_of ho9 3
  have l9:=heap_lt ho9
  have d0:=cell_of J7.out 0
  have d1:=cell_of J7.out 1
  have d2:=cell_of J7.out 2
  have d3:=cell_of J7.out 3
  have d4:=cell_of J7.out 4
  have d5:=cell_of J7.out 5
  have d6:=cell_of J7.out 6
  have d7:=cell_of J7.out 7
  have d8:=cell_of J7.out 8
  have d9:=cell_of J7.out 9
  have dlt:=heap_lt J7.out
  obtain⟨m1,m2,m3,m4,m5⟩:=M7.out.cells
  clear happ9 ho9 hM9 hk9 hg9 hsz7 hsz9 M8 X_ F_ O_ Y_ V_ Z7 K7 K6 G7 H HA
  go_region_law (refine step_append rfl (.tmp 59) (.tmp 61) 55 rfl _ _ (by simp [Act.eval,Act.put]) (by simp [Act.eval,Act.put]) _ w9 Happ9.out ?_)
  all_goals
   go_wp2_with fail
   go_ret
   exact HD.out
 ·rw[if_neg hg]at hid0 hcost0
  obtain⟨rm,hrm⟩:∃rm,roomAt B.size=rm:=⟨_,rfl⟩
  have hrm3:3≤rm∧rm≤1024:=by rw[←hrm];unfold roomAt;omega
  rw[hrm]at hid0 hcost0
  rw[hcost0]at hcost
  obtain⟨mk1,mk2⟩:(∀w:World,(Instr.makeSlice 130 (.int .i64 (rm:Int)) (.int .i64 (rm:Int))).run Tryz.prog w=.ok (.slice (some ⟨w.heap.size,0,none⟩) rm rm) (w.alloc (.cells (madeCells #[Value.int .u8 0] rm) 5)))∧∀w:World,(convert 130 9 (.slice (some ⟨w.heap.size,0,none⟩) rm rm)).run Tryz.prog (w.alloc (.cells (madeCells #[Value.int .u8 0] rm) 5))=.ok (.string (zerosB rm)) (w.alloc (.cells (madeCells #[Value.int .u8 0] rm) 5)):=⟨fun w=>(made_zeros w rm hrm3.2).1,fun w=>(made_zeros w rm hrm3.2).2⟩
  have hfill:=box (fun (w':World)=>rPut_any (fillM rm) (.slice none 0 0) w' (.inl ⟨rfl,none,0,rfl⟩) (right_fill rm hrm3.2))
  have hpF:(putS RightP (fillM rm)).1=fillB rm:=by
   unfold putS
   rw[if_neg (fun h=>h (right_fill rm hrm3.2)),if_pos rfl,if_pos (by show 3≤(zerosB rm).size∧(zerosB rm).size≤1024;rw[zerosB_size];exact hrm3)]
   show fillB (zerosB rm).size=_
   rw[zerosB_size]
  rw[hpF]at hfill
  have hfz:=fillB_size hrm3.1
  obtain⟨fz,hfzE⟩:∃fz,fillB rm=fz:=⟨_,rfl⟩
  rw[hfzE]at hfill hfz
  have Hfz:=box hfz
  have hsum:B.size+fz.size≤9223372036854775807:=by omega
  clear hrm hpF hfzE hg hfz
  go_wp2_with fail
  refine(hcost.out _ HC2.out).mono ?_
  rintro e w3 ⟨rfl,hc3⟩
  have HC3:=box (C1.out.trans (HC2.out.trans hc3))
  have HM3:=box (hM'.out.calm HC3.out)
  have HJ3:=box (heap_calm hc3 J2.out)
  have HK3:=box (Keeps.of_calm (F:=fun b=>b=g∨(Value.slice ia inn ic).ownBlock=some b∨(Value.slice lla lnn lc).ownBlock=some b) HC3.out)
  clear hc3 c0 c1 c2 c3 c4 c5 c6 c7 c8 c9 clt hput hcost hM' J1 J2 HC2 C1 HC3
  obtain⟨hci1,hci2,hci3,hci4,hci5⟩:=HM3.out.cells
  have hffz:=free_of HM3.out.obj 0
  go_upto_region 4 with fail
  have mk1':(Instr.makeSlice 130 (.int .i64 (rm:Int)) (.int .i64 (rm:Int))).run Tryz.prog w3.drew=.ok (.slice (some ⟨w3.heap.size,0,none⟩) rm rm) (w3.drew.alloc (.cells (madeCells #[Value.int .u8 0] rm) 5)):=mk1 w3.drew
  have mk2':(convert 130 9 (.slice (some ⟨w3.heap.size,0,none⟩) rm rm)).run Tryz.prog (w3.alloc (.cells (madeCells #[Value.int .u8 0] rm) 5)).drew=.ok (.string (zerosB rm)) (w3.alloc (.cells (madeCells #[Value.int .u8 0] rm) 5)).drew:=mk2 w3.drew
  have CA:=box (show Calm w3 (w3.drew.alloc (.cells (madeCells #[Value.int .u8 0] rm) 5)) from ((Calm.refl w3).drew).alloc _)
  have hcs:=box (fun W' (hc:Calm w3 W')=>((HM3.out.calm hc).cells.1))
  clear mk1 mk2
  have hno:(9223372036854775807<B.size+fz.size)=False:=eq_false (by omega)
  have hob:=box (fun W' (hc:Calm w3 W')=>((HM3.out.calm hc).obj))
  go_region_with ((go_at_call 61;refine(hfill.out _).mono ?_;rintro e w5 ⟨rfl,hb5⟩;have K5:=box (show Calm w3 w5 from CA.out.trans hb5);have hc5:=hcs.out w5 K5.out;have hf5:=free_of (hob.out w5 K5.out) 0;have hl5:=heap_lt (hob.out w5 K5.out)))
  all_goals
   clear hc5 hf5 hl5 hob hcs mk1' mk2' hno hb5 hci1 hci2 hci3 hci4 hci5 hffz
   have hM5:=HM3.out.calm K5.out
   obtain⟨hM5t,hK5t⟩:=hM5.text (B++fz)
   have HM5:=box hM5t
   have HK5:=box ((HK3.out.trans' (Keeps.of_calm K5.out)).trans' hK5t)
   have HJ5:=box ((hK5t.block w.heap.size (heap_lt (heap_calm K5.out HJ3.out)) hown).trans (heap_calm K5.out HJ3.out))
   obtain⟨w6_,hw6_⟩:∃w6_,w5.setCell ⟨g,0,none⟩ (.string (B++fz))=w6_:=⟨_,rfl⟩
   rw[hw6_]at HM5 HK5 HJ5 ⊢
   have hbs:(B++fz).size=B.size+rm:=by rw[ByteArray.size_append,Hfz.out]
   obtain⟨bt,hbtE⟩:∃bt,B++fz=bt:=⟨_,rfl⟩
   rw[hbtE]at HM5 hbs ⊢
   have HM:=HM5
   have HK:=HK5
   have HJ:=HJ5
   have hid:idP B.size ⟨kd,q,du,rt,rf,bn,tp,tg,bd,ks⟩=bt.size:=by rw[hid0,hbs]
   have hbt:bt.size+rb.size=B.size+costP B.size ⟨kd,q,du,rt,rf,bn,tp,tg,bd,ks⟩:=by rw[hcost0,hbs];omega
   have hbsle:bt.size≤1100000:=by omega
   clear hbs hM5 hM5t hK5t hw6_ hbtE HM5 HK5 HJ5 HM3 HK3 HJ3 K5 CA hid0 hcost0 Hfz hfill hsum
   obtain⟨hci1,hci2,hci3,hci4,hci5⟩:=HM.out.cells
   have hfz:=free_of HM.out.obj 0
   have hsum:bt.size+rb.size≤9223372036854775807:=by omega
   obtain⟨hM6,hK6⟩:=HM.out.text (bt++rb)
   have hcz6:Calm W (w6_.setCell ⟨g,0,none⟩ (.string (bt++rb))):=Below.trans hcW ((HK.out.trans' hK6).below hcW.size hfoot)
   have hJ6:=(hK6.block w.heap.size (heap_lt HJ.out) hown).trans HJ.out
   have M6:=box hM6
   have K6:=box (HK.out.trans' hK6)
   have Z6:=box hcz6
   have J6:=box hJ6
   have F_:=box hfoot
   have O_:=box hown
   have X_:=box (And.intro hid hbt)
   have Y_:=box hcW
   have V_:=box hkW
   clear hM6 hK6 hcz6 hJ6 hfoot hown hid hbt hcW hkW HM HK HJ
   go_upto_region 7 with fail
   obtain⟨w6,hw6⟩:∃w6,w6_.setCell ⟨g,0,none⟩ (.string (bt++rb))=w6:=⟨_,rfl⟩
   rw[hw6]at M6 K6 Z6 J6 ⊢
   clear hw6 hci1 hci2 hci3 hci4 hci5 hfz
   obtain⟨iv2,w7,happ7,ho7,hM7,hk7,hg7⟩:=M6.out.id Z6.out.size (by rw[List.length_map];omega) bt.size
   obtain⟨ia2,in2,ic2,rfl⟩:=row_slice hM7.ids
   have Happ7:=box happ7
   have M7:=box hM7
   have K7:=box (K6.out.trans' hk7)
   have J7:=box ((hk7.block w.heap.size (heap_lt J6.out) O_.out).trans J6.out)
   have Z7:=box (show Calm W (w7.setCell ⟨g,2,none⟩ (.slice ia2 in2 ic2)) from Below.trans Y_.out (K7.out.below Y_.out.size F_.out))
   have G7:=box hg7
   obtain⟨k61,k62,k63,k64,k65⟩:=M6.out.cells
   have e72:w7.cell? ⟨g,2,none⟩=some (.slice ia inn ic):=cell_of ho7 2
   have f72:=free_of ho7 2
   have l7:=heap_lt ho7
   clear happ7 ho7 hM7 hk7 hg7 M6 J6 Z6
   go_upto_region 8 with (first|(at_builtin;refine Lib.wpList_append_run _ rfl _ _ _ _ rfl _ _ rfl rfl _ _ Happ7.out ?_)|fail)
   obtain⟨w8,hw8⟩:∃w8,w7.setCell ⟨g,2,none⟩ (.slice ia2 in2 ic2)=w8:=⟨_,rfl⟩
   rw[hw8]at M7 K7 J7 Z7 ⊢
   clear hw8 k61 k62 k63 k64 k65 e72 f72 l7 Happ7
   have M8:=box (M7.out.calm (show Calm w8 w8.drew from (Calm.refl _).drew))
   obtain⟨lv2,w9,happ9,ho9,hM9,hk9,hg9⟩:=M8.out.rec_ (by exact Z7.out.size) (by omega) (bt.size,⟨kd,q,du,rt,rf,bn,tp,tg,bd,ks⟩,.slice ka ks.length kcap) ⟨_,_,_,rfl⟩
   obtain⟨la2,ln2,lc2,rfl⟩:=row_slice hM9.row
   have Happ9:=box happ9
   have hsz7:w.heap.size≤w6.heap.size:=K6.out.size
   have hsz9:w.heap.size≤w8.drew.heap.size:=K7.out.size
   have HD:=box (show RAppDone W g B bg A (.slice ia inn ic) (.slice lla lnn lc) ⟨kd,q,du,rt,rf,bn,tp,tg,bd,ks⟩ (.slice ka ks.length kcap) w (.returned (.int .i64 (bt.size:Int))) (w9.setCell ⟨g,3,none⟩ (.slice la2 ln2 lc2)) from by
    obtain⟨hid,hbt⟩:=X_.out
    refine⟨by rw[hid],bt++rb,.slice ia2 in2 ic2,.slice la2 ln2 lc2,by rw[ByteArray.size_append];exact hbt,?_,?_,?_,?_⟩
    ·have h9:=hM9
     rw[←hid]at h9
     exact RTm.done (B2:=B) h9 H.out.gW hA H.out.msgs V_.out hkl
    ·exact(K7.out.drew).trans' (hk9.mono fun b _ hb=>by
      rcases hb with hb|hb
      ·exact .inl hb
      ·exact .inr (.inr hb))
    ·intro b hb
     rcases G7.out b hb with h1|h1
     ·exact .inl h1
     ·exact .inr (Nat.le_trans hsz7 h1)
    ·intro b hb
     rcases hg9 b hb with h1|h1
     ·exact .inl h1
     ·exact .inr (Nat.le_trans hsz9 h1))
   have e93:w9.cell? ⟨g,3,none⟩=some (.slice lla lnn lc):=cell_of ho9 3
   have f93:=free_of ho9 3
   have l9:=heap_lt ho9
   have d0:=cell_of J7.out 0
   have d1:=cell_of J7.out 1
   have d2:=cell_of J7.out 2
   have d3:=cell_of J7.out 3
   have d4:=cell_of J7.out 4
   have d5:=cell_of J7.out 5
   have d6:=cell_of J7.out 6
   have d7:=cell_of J7.out 7
   have d8:=cell_of J7.out 8
   have d9:=cell_of J7.out 9
   have dlt:=heap_lt J7.out
   obtain⟨m1,m2,m3,m4,m5⟩:=M7.out.cells
   clear happ9 ho9 hM9 hk9 hg9 hsz7 hsz9 M8 X_ F_ O_ Y_ V_ Z7 K7 K6 G7 H HA
   go_region_law (refine step_append rfl (.tmp 59) (.tmp 61) 55 rfl _ _ (by simp [Act.eval,Act.put]) (by simp [Act.eval,Act.put]) _ w9 Happ9.out ?_)
   all_goals
    go_wp2_with fail
    go_ret
    exact HD.out
end
section
variable {W w w' w2:World} {t t' p n g c k bg:Nat} {S S':TS} {G G':Nat→Prop} {B B2:ByteArray} {A:List Rq} {iv lv iv2 lv2:Value}
theorem ints_eq {v u:Value} {l:List Int} (h1:IntsAt w v l) (h2:IntsAt w u l):Calls Tryz.prog 32 #[v,u] w fun e w'=>e=.returned (.bool true)∧Calm w w':=by
 refine(Ints_any v u l l w h1 h2).mono ?_
 rintro e w2 ⟨rfl,h2⟩
 exact⟨by rw[decide_eq_true rfl],h2⟩
theorem RT.rec_ (h:RT W w g B bg A iv lv) {i:Nat} (hi:i<A.length):∃b cap,lv=.slice (some ⟨b,0,none⟩) A.length cap∧A.length≤cap∧b<w.heap.size∧∀j u,(msgA A[i].2.1 A[i].2.2)[j]? = some u→w.cell? ⟨b,i * 10+j,none⟩=some u:=by
 have hr:=h.row
 rcases hr.2 with ⟨rfl,hn⟩|⟨b,cap,cur,rfl,hb,hg,hnc,hcm,hcs,htake⟩
 ·omega
 ·refine⟨b,cap,rfl,hnc,heap_lt hg,fun j u hj=>?_⟩
  have:=hr.cells (g:=b) rfl (i * 10+j) u (by
   have hj10:j<10:=by
    have:=Array.getElem?_eq_some_iff.1 hj
    obtain⟨h1,_⟩:=this
    exact h1
   unfold msgRow
   have e1:(A.flatMap fun x=>(msgA x.2.1 x.2.2).toList)=((A.take i).flatMap fun x=>(msgA x.2.1 x.2.2).toList)++((msgA A[i].2.1 A[i].2.2).toList++((A.drop (i+1)).flatMap fun x=>(msgA x.2.1 x.2.2).toList)):=by
    conv=>lhs;rw[←List.take_append_drop i A,List.drop_eq_getElem_cons hi]
    rw[List.flatMap_append,List.flatMap_cons]
   have e2:((A.take i).flatMap fun x=>(msgA x.2.1 x.2.2).toList).length=i * 10:=by
    show (msgRow (A.take i)).length=_
    rw[msgRow_len,List.length_take];congr 1;omega
   rw[e1,List.getElem?_append_right (by omega),e2,show i * 10+j-i * 10=j by omega,List.getElem?_append_left (by exact hj10)]
   rw[←Array.getElem?_toList]at hj
   exact hj)
  rw[add_lit]at this
  simpa using this
end
def endL (A:List Rq):Nat:=A.foldl (fun e x=>e+costP e x.2.1) 0
theorem endL_snoc (A:List Rq) (x:Rq):endL (A++[x])=endL A+costP (endL A) x.2.1:=by unfold endL;rw[List.foldl_append];rfl
def Laid (A:List Rq):Prop:=∀i (hi:i<A.length),A[i].1=idP (endL (A.take i)) A[i].2.1
theorem Laid.snoc {A:List Rq} (h:Laid A) {m:MsgS} {kv:Value}:Laid (A++[(idP (endL A) m,m,kv)]):=fun i hi=>by
 rw[List.length_append,List.length_singleton]at hi
 by_cases hc:i<A.length
 ·rw[List.getElem_append_left hc,List.take_append_of_le_length (by omega)]
  exact h i hc
 ·obtain rfl:i=A.length:=by omega
  rw[List.getElem_append_right (Nat.le_refl _),List.take_left]
  simp
theorem laid_endN {A:List Rq} (hok:∀x∈A,okM x.2.1):∀n,n≤A.length→(endL (A.take n)%1024=0∨endL (A.take n)%1024+3≤1024)∧endL (A.take n)≤1345 * n
 | 0,_=>⟨.inl rfl,Nat.le_refl _⟩
 | n+1,hn=>by
  obtain⟨h1,h0⟩:=laid_endN hok n (by omega)
  have h2:=hok A[n] (List.getElem_mem (by omega))
  have hle:=cost_le (endL (A.take n)) A[n].2.1
  rw[List.take_succ_eq_append_getElem (by omega),endL_snoc]
  have hb:=recB_bounds h2.1 h2.2
  have hc:costP (endL (A.take n)) A[n].2.1=(flat (laidP (endL (A.take n)) A[n].2.1)).length:=by unfold costP;rw[if_pos h2]
  refine⟨?_,by omega⟩
  rw[hc,laid_len h1]
  by_cases hg:goesIn (endL (A.take n)) (recB A[n].2.1).size
  ·rw[if_pos hg];unfold goesIn roomAt at hg;omega
  ·rw[if_neg hg];unfold roomAt;omega
theorem laid_end {A:List Rq} (hok:∀x∈A,okM x.2.1):endL A%1024=0∨endL A%1024+3≤1024:=by
 have:=(laid_endN hok A.length (Nat.le_refl _)).1
 rwa[List.take_length]at this
theorem endL_le (A:List Rq) (hok:∀x∈A,okM x.2.1):endL A≤1345 * A.length:=by
 have:=(laid_endN hok A.length (Nat.le_refl _)).2
 rwa[List.take_length]at this
section
variable {W w w' w2:World} {g bg:Nat} {B:ByteArray} {A:List Rq} {iv lv:Value}
structure CutAt (W w:World) (g bg n:Nat) (A:List Rq) (w':World):Prop where
 at_:∃B iv lv,RT W w' g B bg (A.take n) iv lv∧B.size=endL (A.take n)∧(∀b,iv.ownBlock=some b→w.heap.size≤b)∧∀b,lv.ownBlock=some b→w.heap.size≤b
 keeps:Keeps (· = g) w w'
theorem CutAt.next {n:Nat} (h:CutAt W w g bg n A w') (hn:n<A.length) (hl:Laid A) (hok:∀x∈A,okM x.2.1) (hz:∀x∈A,MsgZ x.2.1) (hms:∀x∈A,StrsAt W x.2.2 x.2.1.keys∧x.2.1.keys.length≤1000000) (hcW:Calm W w) (hgW:W.heap.size≤g) (hA:A.length<500) :
  Calls Tryz.prog 27 #[ptrTo g,.agg (msgA A[n].2.1 A[n].2.2)] w' fun e w2=>(∃z,e=.returned (.int .i64 z))∧CutAt W w g bg (n+1) A w2:=by
 obtain⟨⟨B,iv,lv,h1,h2,h3,h4⟩,h5⟩:=h
 have hm:=List.getElem_mem hn
 have hcw':Calm W w':=Below.trans hcW (h5.below hcW.size (fun b hb=>by rw[hb];exact hgW))
 have hokt:∀x∈A.take n,okM x.2.1:=fun x hx=>hok x (List.mem_of_mem_take hx)
 have hle:=endL_le (A.take n) hokt
 rw[List.length_take]at hle
 have hzz:=hz _ hm
 refine(rAppend_any A[n].2.1 A[n].2.2 w' h1 hcw' (hms _ hm).1 (hms _ hm).2 hzz.2.2.2.2.1 ⟨hzz.1,hzz.2.1,hzz.2.2.1⟩ (hok _ hm) (by rw[h2];omega) (by rw[h2];exact laid_end hokt) (by rw[List.length_take];omega)).mono ?_
 rintro e w2 ⟨rfl,B2,iv2,lv2,r1,r2,r3,r4,r5⟩
 have hx:(idP B.size A[n].2.1,A[n].2.1,A[n].2.2)=A[n]:=by rw[h2,←hl n hn]
 rw[hx]at r2
 have ht:A.take (n+1)=A.take n++[A[n]]:=List.take_succ_eq_append_getElem hn
 refine⟨⟨_,rfl⟩,⟨B2,iv2,lv2,by rw[ht];exact r2,by rw[r1,h2,ht,endL_snoc],fun b hb=>?_,fun b hb=>?_⟩,?_⟩
 ·rcases r4 b hb with h6|h6
  ·exact h3 b h6
  ·exact Nat.le_trans h5.size h6
 ·rcases r5 b hb with h6|h6
  ·exact h4 b h6
  ·exact Nat.le_trans h5.size h6
 ·refine⟨r3.os.trans h5.os,r3.tape.trans h5.tape,r3.output.trans h5.output,Nat.le_trans h5.size r3.size,fun b hb hn=>?_⟩
  rw[r3.block b (Nat.lt_of_lt_of_le hb h5.size) (fun e=>by
   rcases e with e|e|e
   ·exact hn e
   ·have:=h3 b e;omega
   ·have:=h4 b e;omega)]
  exact h5.block b hb hn
end
end Go.Proofs.YtiahjipoofeliaaGreatDoor.tp

namespace Go.Proofs.YtiahjipoofeliaaGreatDoor.tp
open Go.RowKit
open rc oc sg dk
inductive PiecesOf:List Pc→List Rq→Prop
 | nil:PiecesOf [] []
 | snoc {ps:List Pc} {A:List Rq} {m:MsgS} {kv:Value}:PiecesOf ps A→okM m→PiecesOf (ps++laidP (endL A) m) (A++[(idP (endL A) m,m,kv)])
theorem PiecesOf.ends {ps:List Pc} {A:List Rq} (h:PiecesOf ps A):(flat ps).length=endL A∧(∀x∈A,okM x.2.1)∧recs 0 ps=A.map numR∧Laid A:=by
 induction h with
 | nil=>exact⟨rfl,fun x hx=>(by cases hx),rfl,fun i hi=>absurd hi (Nat.not_lt_zero _)⟩
 | @snoc ps A m kv h hok ih =>
  obtain⟨h1,h2,h3,h4⟩:=ih
  have hen:=laid_end h2
  refine⟨?_,fun x hx=>?_,?_,Laid.snoc h4⟩
  ·rw[flat_append,List.length_append,h1,endL_snoc]
   have hc:costP (endL A) m=(flat (laidP (endL A) m)).length:=by unfold costP;rw[if_pos hok]
   show _=endL A+costP (endL A) m
   rw[hc]
  ·rcases List.mem_append.1 hx with hx|hx
   ·exact h2 x hx
   ·rw[List.mem_singleton]at hx;subst hx;exact hok
  ·rw[recs_append,h3,Nat.zero_add,h1,laid_recs hen,List.map_append];rfl
theorem PiecesOf.first {ps:List Pc} {A:List Rq} (h:PiecesOf ps A):∀ps1 ps2,ps=ps1++ps2→∃n,n≤A.length∧recs 0 ps1=(A.take n).map numR∧((flat ps1).length=endL (A.take n)∨(endL (A.take n)<(flat ps1).length∧(flat ps1).length%1024=0)):=by
 induction h with
 | nil =>
  intro ps1 ps2 e
  have:=List.append_eq_nil_iff.1 e.symm
  rw[this.1]
  exact⟨0,Nat.le_refl _,rfl,.inl rfl⟩
 | @snoc ps A m kv h hok ih =>
  intro ps1 ps2 e
  obtain⟨h1,h2,h3,h4⟩:=h.ends
  have hen:=laid_end h2
  -- does it end within what was there?
  by_cases hl:ps1.length≤ps.length
  ·obtain⟨r,hr⟩:∃r,ps=ps1++r:=by
    refine⟨ps.drop ps1.length,?_⟩
    have h5:ps1=ps.take ps1.length:=by
     have:=congrArg (List.take ps1.length) e
     rw[List.take_append_of_le_length hl,List.take_left]at this
     exact this.symm
    calc ps=ps.take ps1.length++ps.drop ps1.length:=(List.take_append_drop _ _).symm
     _=_:=by rw[←h5]
   obtain⟨n,n1,n2,n3⟩:=ih ps1 r hr
   refine⟨n,by rw[List.length_append];omega,?_,?_⟩
   ·rw[List.take_append_of_le_length n1];exact n2
   ·rw[List.take_append_of_le_length n1];exact n3
  ·obtain⟨r,hr⟩:∃r,ps1=ps++r:=by
    refine⟨ps1.drop ps.length,?_⟩
    have h5:ps=ps1.take ps.length:=by
     have:=congrArg (List.take ps.length) e
     rw[List.take_left,List.take_append_of_le_length (by omega)]at this
     exact this
    calc ps1=ps1.take ps.length++ps1.drop ps.length:=(List.take_append_drop _ _).symm
     _=_:=by rw[←h5]
   subst hr
   rw[List.append_assoc,List.append_cancel_left_eq]at e
   rw[List.length_append]at hl
   by_cases hg:goesIn (endL A) (recB m).size
   ·have hp:laidP (endL A) m=[.one m]:=by unfold laidP;rw[if_pos hg]
    rw[hp]at e
    have hr1:r=[.one m]:=by
     cases r with
     | nil=>simp at hl
     | cons x r =>
      rw[List.cons_append,List.cons.injEq]at e
      have:=List.append_eq_nil_iff.1 e.2.symm
      rw[e.1,this.1]
    have hw:=(PiecesOf.snoc (kv:=kv) h hok).ends
    rw[hp]at hw
    refine⟨(A++[(idP (endL A) m,m,kv)]).length,Nat.le_refl _,?_,.inl ?_⟩
    ·rw[List.take_length,hr1];exact hw.2.2.1
    ·rw[List.take_length,hr1];exact hw.1
   ·have hp:laidP (endL A) m=[.fill (roomAt (endL A)),.one m]:=by unfold laidP;rw[if_neg hg]
    rw[hp]at e
    have hrm:3≤roomAt (endL A):=by unfold roomAt;omega
    have hr1:r=[.fill (roomAt (endL A))]∨r=[.fill (roomAt (endL A)),.one m]:=by
     match r,e,hl with
     | [],_,hl=>simp at hl
     | [x],e,_ =>
      rw[List.singleton_append,List.cons.injEq]at e
      exact .inl (by rw[e.1])
     | x :: y :: r,e,_ =>
      rw[List.cons_append,List.cons_append,List.cons.injEq,List.cons.injEq]at e
      have:=List.append_eq_nil_iff.1 e.2.2.symm
      exact .inr (by rw[e.1,e.2.1,this.1])
    rcases hr1 with rfl|rfl
    ·refine⟨A.length,by rw[List.length_append];omega,?_,.inr ?_⟩
     ·rw[List.take_left,recs_fill,h3]
     ·rw[List.take_left,flat_snoc,List.length_append,h1]
      have:(Pc.fill (roomAt (endL A))).list.length=roomAt (endL A):=Pc.len_fill hrm
      rw[this]
      unfold roomAt
      omega
    ·have hw:=(PiecesOf.snoc (kv:=kv) h hok).ends
     rw[hp]at hw
     refine⟨(A++[(idP (endL A) m,m,kv)]).length,Nat.le_refl _,?_,.inl ?_⟩
     ·rw[List.take_length];exact hw.2.2.1
     ·rw[List.take_length];exact hw.1
section
variable {D E:DiskS} {R:RowS} {ps:List Pc} {sf c m:Nat}
theorem last_blk {n x:ByteArray} {f:FileS} (h:(D.last n).find x=some f):∃g,D.find x=some g∧g.blk=f.blk:=by
 unfold DiskS.last at h
 cases hn:D.find n with
 | none=>rw[hn]at h;exact⟨f,h,rfl⟩
 | some g0 =>
  rw[hn]at h
  simp only at h
  unfold DiskS.turn DiskS.without DiskS.find at h
  simp only at h
  rw[List.find?_map]at h
  have e1:∀(g:FileS→FileS),(∀y,(g y).name=y.name)→((fun f:FileS=>decide (f.name=x)) ∘ g)=fun f:FileS=>decide (f.name=x):=fun g hg=>by funext y;simp [Function.comp,hg]
  rw[e1 _ (fun y=>by split<;>rfl)]at h
  cases hx:D.files.find? (fun f:FileS=>decide (f.name=x)) with
  | none=>rw[hx]at h;cases h
  | some g =>
   rw[hx]at h
   simp only[Option.map_some,Option.some.injEq]at h
   refine⟨g,hx,?_⟩
   rw[←h]
   split<;>rfl
theorem last_waits (n:ByteArray) (b:Nat) (h:D.waits.filter (fun x=>decide (x.blk=b))=[]):(D.last n).waits.filter (fun x=>decide (x.blk=b))=[]:=by
 unfold DiskS.last
 split
 ·exact h
 ·unfold DiskS.without DiskS.turn
  simp only
  rw[List.filter_eq_nil_iff]at h ⊢
  exact fun x hx=>h x (List.mem_filter.1 hx).1
theorem last_clean {n:ByteArray} {f:FileS} (h:D.find n=some f):(D.last n).waits.filter (fun x=>decide (x.blk=f.blk))=[]:=by
 unfold DiskS.last
 rw[h]
 unfold DiskS.without DiskS.turn
 simp only
 rw[List.filter_eq_nil_iff]
 intro x hx e
 have h2:=(List.mem_filter.1 hx).2
 rw[decide_eq_true_eq]at e
 rw[e]at h2
 simp at h2
theorem lasts_waits (b:Nat):∀(l:List ByteArray) {D:DiskS},D.waits.filter (fun x=>decide (x.blk=b))=[]→(l.foldl DiskS.last D).waits.filter (fun x=>decide (x.blk=b))=[]
 | [],_,h=>h
 | n :: l,_,h=>lasts_waits b l (last_waits n b h)
theorem lasts_blk {x:ByteArray} {f:FileS}:∀(l:List ByteArray) {D:DiskS},(l.foldl DiskS.last D).find x=some f→∃g,D.find x=some g∧g.blk=f.blk
 | [],_,h=>⟨f,h,rfl⟩
 | n :: l,D,h=>by
  obtain⟨g,h1,h2⟩:=lasts_blk l (D:=D.last n) h
  obtain⟨k,k1,k2⟩:=last_blk h1
  exact⟨k,k1,k2.trans h2⟩
theorem lasts_clean {x:ByteArray} {f:FileS}:∀(l:List ByteArray) {D:DiskS},x∈l→(l.foldl DiskS.last D).find x=some f→(l.foldl DiskS.last D).waits.filter (fun y=>decide (y.blk=f.blk))=[]
 | n :: l,D,hx,h=>by
  rcases List.mem_cons.1 hx with rfl|hx
  ·obtain⟨g,h1,h2⟩:=lasts_blk l (D:=D.last x) h
   obtain⟨k,k1,k2⟩:=last_blk h1
   refine lasts_waits f.blk l ?_
   rw[←h2,←k2]
   exact last_clean k1
  ·exact lasts_clean l (D:=D.last n) hx h
theorem ps_nil:∀ {ps:List Pc},flat ps=[]→ps=[]
 | [],_=>rfl
 | p :: ps,h=>by
  rw[flat_cons]at h
  exact absurd (List.append_eq_nil_iff.1 h).1 p.ne_nil
theorem Wk.sync (hW:Wk D R ps sf) (h:Holds D R (flat ps)) (ha:Able D c m) (hsy:R.synced=R.start):Wk (syncD D R).2.1 R.clean ps ps.length:=by
 have hz:=h.ok.size
 have hsz:=h.size
 obtain⟨P,Q,a1,a2,a3,a4⟩:=hW
 by_cases hb:flat ps=[]
 ·have hps:=ps_nil hb
  have hd:R.dirty=[]:=by
   unfold RowS.dirty
   rw[List.filter_eq_nil_iff]
   intro k _ e
   rw[Bool.and_eq_true,decide_eq_true_eq,decide_eq_true_eq]at e
   rw[hb]at hsz
   simp only[List.length_nil]at hsz
   omega
  have hs:(syncD D R).2.1=D:=by unfold syncD;rw[if_neg (by rw[ha.alive.down];decide),if_pos hd]
  rw[hs]
  refine⟨P,Q,a1,a2,fun i hi=>?_,Nat.le_refl _⟩
  rw[hps]
  simp
 ·have hne:(flat ps).length≠0:=fun e=>hb (List.eq_nil_of_length_eq_zero e)
  have hd:∀i,i<R.cnt→(R.start+i * R.size)∈R.dirty:=fun i hi=>by
   unfold RowS.dirty
   rw[List.mem_filter,Bool.and_eq_true,decide_eq_true_eq,decide_eq_true_eq]
   exact⟨mem_plc.2 ⟨i,hi,rfl⟩,by omega,by omega⟩
  have h0:R.dirty≠[]:=fun e=>by
   have hc:0<R.cnt:=by
    rcases Nat.eq_zero_or_pos R.cnt with h1|h1
    ·have:=h.ok.none h1;omega
    ·exact h1
   have:=hd 0 hc
   rw[e]at this
   cases this
  obtain⟨E,h1,h2,_,_⟩:=ha.sync (l:=R.dirty.map (nameB R.head)) (fun n hn=>by
   obtain⟨k,hk,rfl⟩:=List.mem_map.1 hn
   exact h.has (List.mem_filter.1 hk).1)
  have hs:(syncD D R).2.1=E:=by unfold syncD;rw[if_neg (by rw[ha.alive.down];decide),if_neg h0,h1];rfl
  rw[hs,h2]
  have hcat:∀j,catP (fun i=>(P i++Q i)++([]:List Pc)) j=catP (fun i=>P i++Q i) j:=fun j=>catP_congr j fun i _=>List.append_nil _
  refine⟨fun i=>P i++Q i,fun _=>[],?_,fun i hi f hf=>?_,fun i hi=>?_,Nat.le_refl _⟩
  ·show ps=catP _ R.cnt
   rw[hcat,←a1]
  ·have hi:i<R.cnt:=hi
   have hf:(List.foldl DiskS.last D (R.dirty.map (nameB R.head))).find (nameB R.head (R.start+i * R.size))=some f:=hf
   obtain⟨g,g1,g2,_,g4⟩:=lasts_find _ hf
   have hm:nameB R.head (R.start+i * R.size)∈R.dirty.map (nameB R.head):=List.mem_map.2 ⟨_,hd i hi,rfl⟩
   have hw:=a2 i hi g g1
   refine⟨by rw[g4 hm,hw.now],?_,?_⟩
   ·show f.now=bA (flat ((P i++Q i)++[]))
    rw[List.append_nil,←g2,hw.now]
   ·exact lasts_clean _ hm hf
  ·have hi:i<R.cnt:=hi
   rw[hcat,hcat]
   show min _ (catP _ i++(P i++Q i)).length≤_
   rw[List.length_append]
   exact Nat.min_le_right _ _
end
end Go.Proofs.YtiahjipoofeliaaGreatDoor.tp

namespace Go.Proofs.YtiahjipoofeliaaGreatDoor.sg
open dk
theorem drops_none (l:List ByteArray):∀ {D:DiskS},D.waits=[]→(l.foldl DiskS.drop D).waits=[]:=by
 induction l with
 | nil=>exact fun h=>h
 | cons n l ih =>
  intro D h
  refine ih ?_
  unfold DiskS.drop
  split
  ·exact h
  ·unfold DiskS.without;simp [h]
theorem crash_row {D:DiskS} {R:RowS} {b:List UInt8} {c m:Nat} (h:Holds D R b) (hF:dk.Form D) (hG:dk.Good D) (hac:D.cap=(c:Int)) (has:D.size≤m) (haf:(D.files.map (·.name)).length≤m) (han:∀s∈D.files.map (·.name),s.size≤1000) (hst:R.start=0) (keep:List Bool) (lack:Int)
  (L:Nat→List UInt8) (hL:∀i,i<R.cnt→(D.crashed keep lack).bytes (nameB R.head (R.start+i * R.size))=some (bA (L i))∧(L i).length≤R.size) :
  ∃E R1 k,openD (D.crashed keep lack) R.head R.size=(0,E,R1)∧k≤R.cnt∧(0<R.cnt→0<k)∧(∀i,i+1<k→(L i).length=R.size)∧(k<R.cnt→(L (k-1)).length<R.size)∧Holds E R1 (concatN L k)∧Able E c m∧R1.start=0∧R1.head=R.head∧R1.size=R.size∧R1.synced=0∧E.waits=[]:=by
 have hz:=h.ok.size
 have hcr:∀n,(D.crashed keep lack).find n=(D.find n).map _:=crashed_find keep lack
 have hnames:(D.crashed keep lack).files.map (·.name)=D.files.map (·.name):=crashed_names keep lack
 have hhas:∀n,(D.crashed keep lack).has n=D.has n:=fun n=>by
  unfold DiskS.has;rw[hcr];cases D.find n<;>rfl
 have hF1:dk.Form (D.crashed keep lack):=by
  refine⟨by rw[hnames];exact hF.names,?_,fun x hx=>by cases hx⟩
  have:(D.crashed keep lack).files.map (·.blk)=D.files.map (·.blk):=by
   unfold DiskS.crashed DiskS.imaged
   simp only
   rw[List.map_map,List.map_map]
   rfl
  rw[this];exact hF.blks
 have hP:placesL (D.crashed keep lack) R.head=R.places:=by
  rw[←h.placesEq hF]
  refine rising_eq (places_rise hF1 _) (places_rise hF _) (fun k=>?_)
  rw[mem_places,mem_places,hhas]
 have hA1:Able (D.crashed keep lack) c m:=⟨⟨rfl,rfl⟩,hac,Nat.le_trans (hG.crashed keep lack).2 has,by rw[hnames];exact haf,by rw[hnames];exact han⟩
 have hlen:∀i,i<R.cnt→(D.crashed keep lack).len (nameB R.head (R.start+i * R.size))=(L i).length:=fun i hi=>by rw[len_bytes (hL i hi).1,bA_size]
 have hLle:∀i,i<R.cnt→(L i).length≤R.size:=fun i hi=>(hL i hi).2
 obtain⟨k,wh,c1,c2,c3,c4,c5⟩:=found_cut (D:=D.crashed keep lack) (head:=R.head) (size:=R.size) (start:=R.start) (cnt:=R.cnt) (by omega) h.ok.mod hP (fun i hi=>by rw[hlen i hi];exact hLle i hi)
 have hfull:∀i,i+1<k→(L i).length=R.size:=fun i hi=>by rw[←hlen i (by omega)];exact c3 i hi
 have hok:=(FoundOk.all (size:=R.size) (D.crashed keep lack) R.head ((D.crashed keep lack).names R.head) _ (FoundOk.new R.size)).row hz R.head h.ok.head
 have hfd:((D.crashed keep lack).names R.head).foldl (findOne (D.crashed keep lack) R.head R.size) ⟨0,0,0,true,[]⟩=foundD (D.crashed keep lack) R.head R.size:=rfl
 rw[hfd,c5]at hok
 have hoth:∀n∈((plc R.start R.size R.cnt).drop k).map (nameB R.head),(D.crashed keep lack).has n=true:=fun n hn=>by
  obtain⟨j,hj,rfl⟩:=List.mem_map.1 hn
  rw[hhas]
  exact h.has (List.mem_of_mem_drop hj)
 have hmem:∀i,i<R.cnt→(nameB R.head (R.start+i * R.size)∈((plc R.start R.size R.cnt).drop k).map (nameB R.head)↔k≤i):=fun i hi=>by
  rw[name_mem (l:=(plc R.start R.size R.cnt).drop k) (fun j hj=>h.ok.placesLt j (List.mem_of_mem_drop hj)) (by have:=(h.ok.place hi).2;omega)]
  exact plc_inDrop (by omega) hi c1
 obtain⟨E,e1,e2,e3,hwt⟩:∃E,openD (D.crashed keep lack) R.head R.size=(0,E,FoundS.row (foundD (D.crashed keep lack) R.head R.size) R.head R.size)∧((∀s,s∈((plc R.start R.size R.cnt).drop k).map (nameB R.head)→E.bytes s=none)∧∀s,¬s∈((plc R.start R.size R.cnt).drop k).map (nameB R.head)→E.bytes s=(D.crashed keep lack).bytes s)∧Able E c m∧E.waits=[]:=by
  by_cases h0:((plc R.start R.size R.cnt).drop k).map (nameB R.head)=[]
  ·refine⟨D.crashed keep lack,?_,⟨fun s hs=>(by rw[h0]at hs;cases hs),fun _ _=>rfl⟩,hA1,rfl⟩
   unfold openD
   rw[if_neg (by omega),if_neg (show ¬(D.crashed keep lack).down=true from fun h=>by cases h),Int.toNat_natCast,if_pos (by rw[c5];exact h0)]
  ·obtain⟨E,d1,d2,d3,d4⟩:=hA1.delete hoth
   refine⟨E,?_,d3,d4,by rw[d2];exact drops_none _ rfl⟩
   unfold openD
   rw[if_neg (by omega),if_neg (show ¬(D.crashed keep lack).down=true from fun h=>by cases h),Int.toNat_natCast,if_neg (by rw[c5];exact h0)]
   simp only[c5]
   rw[d1]
 have hcl:=concat_length (L:=L) (size:=R.size) k hfull
 have hb1:(concatN L k).length=if k=0 then 0 else (k-1) * R.size+(L (k-1)).length:=by
  rw[hcl];by_cases h0:k=0
  ·rw[if_pos h0,if_pos h0,h0];simp
  ·rw[if_neg h0,if_neg h0]
 have hr1:FoundS.row (foundD (D.crashed keep lack) R.head R.size) R.head R.size=⟨R.head,R.size,0,k,(concatN L k).length,0⟩:=by
  rw[c5]
  unfold FoundS.row
  simp only
  rw[RowS.mk.injEq]
  refine⟨rfl,rfl,by rw[hst];split<;>rfl,rfl,?_,by rw[hst];split<;>rfl⟩
  rw[hb1]
  by_cases h0:k=0
  ·rw[if_pos h0,if_pos h0]
  ·rw[if_neg h0,if_neg h0,hlen _ (by omega),hst];omega
 rw[←c5,hr1]at hok
 rw[hr1]at e1
 refine⟨E,_,k,e1,c1,c2,hfull,fun hk=>by have:=c4 hk;rwa[hlen _ (by omega)]at this,⟨hok,by simp,fun i hi=>?_,fun j hj hh=>?_⟩,e3,rfl,rfl,rfl,rfl,hwt⟩
 ·have hi:i<k:=hi
  show E.bytes (nameB R.head (0+i * R.size))=some (bA (segL (concatN L k) R.size i))
  have:=hmem i (by omega)
  rw[←hst,e2.2 _ (fun hm=>by have:=this.1 hm;omega),(hL i (by omega)).1,concat_seg (L:=L) (size:=R.size) k hfull (fun i hi=>hLle i (by omega)) i hi]
 ·have hh:E.has (nameB R.head j)=true:=hh
  show j∈plc 0 R.size k
  have hjm:¬nameB R.head j∈((plc R.start R.size R.cnt).drop k).map (nameB R.head):=fun hm=>by rw[bytes_has,e2.1 _ hm]at hh;cases hh
  rw[bytes_has,e2.2 _ hjm,←bytes_has,hhas]at hh
  obtain⟨i,hi,rfl⟩:=mem_plc.1 (h.only j hj hh)
  have:=hmem i hi
  refine mem_plc.2 ⟨i,?_,by rw[hst]⟩
  by_cases hk:k≤i
  ·exact absurd (this.2 hk) hjm
  ·omega
end Go.Proofs.YtiahjipoofeliaaGreatDoor.sg

namespace Go.Proofs.YtiahjipoofeliaaGreatDoor.tp
open Go.RowKit
open rc oc sg dk
theorem low2_inj {x y:Nat} (hx:x<65536) (hy:y<65536) (h:low 2 x=low 2 y):x=y:=by
 have h1:=num_back 2 x (by decide) (by decide) hx []
 have h2:=num_back 2 y (by decide) (by decide) hy []
 rw[h,h2]at h1
 have:=congrArg Prod.fst h1
 simp only at this
 omega
def Pc.Long:Pc→Prop
 | .fill n=>3≤n
 | .one _=>True
theorem pc_head {p:Pc} (h:p.Long):∃x r,p.list=x :: (low 2 p.len++r)∧x≠0:=by
 cases p with
 | fill n =>
  have h:3≤n:=h
  refine⟨90,List.replicate (n-3) 0,?_,by decide⟩
  rw[Pc.len_fill h]
  unfold Pc.list fillB
  simp
 | one m =>
  refine⟨165,sealL (insideL m),?_,by decide⟩
  have hl:(Pc.one m).len=3+(sealL (insideL m)).length:=by
   rw[Pc.len_one,recB_size,seal_length];omega
  rw[hl]
  unfold Pc.list recB
  simp
theorem broken_nopc {a:Nat} {c:List Pc} {tl:List UInt8} (hfit:∀q r,c=q :: r→q.Fit a) (h:Broken c tl):NoPc a tl:=by
 cases c with
 | nil=>exact .inl h
 | cons q r =>
  have hq:=hfit q r rfl
  by_cases h0:tl=[]
  ·exact .inl h0
  right
  intro he
  have hr0:0<roomAt a:=by unfold roomAt;omega
  have hne:restOf a tl≠[]:=by
   unfold restOf
   intro e
   rcases List.take_eq_nil_iff.1 e with e|e
   ·omega
   ·exact h0 e
  obtain⟨⟨x,n,z⟩,hg⟩:∃y,getS RightP (bA (restOf a tl))=y:=⟨_,rfl⟩
  rw[hg]at he
  simp only at he
  subst he
  obtain⟨r',e1,e2,e3⟩:=get_put right_fill hg
  rw[bA_list]at e2
  -- the piece that is told
  have hp:∃p:Pc,(putS RightP x).1.data.toList=p.list∧p.Long:=by
   unfold putS at e1 ⊢
   by_cases hx:¬RightP x
   ·rw[if_pos hx]at e1;cases e1
   ·rw[if_neg hx]at e1 ⊢
    by_cases hk:x.kind=0
    ·rw[if_pos hk]at e1 ⊢
     by_cases hb:3≤x.body.size∧x.body.size≤1024
     ·rw[if_pos hb];exact⟨.fill x.body.size,rfl,hb.1⟩
     ·rw[if_neg hb]at e1;cases e1
    ·rw[if_neg hk];exact⟨.one x,rfl,trivial⟩
  obtain⟨p,hpl,hpm⟩:=hp
  rw[hpl]at e2
  obtain⟨x1,r1,q1,q2⟩:=pc_head hpm
  rcases h with ⟨h1,h2⟩|h1
  ·-- less than a piece
   have hqm:q.Long:=by
    have h9:=hq.2.2
    cases q with
    | fill n=>exact h9.1
    | one m=>trivial
   obtain⟨x2,r2,q3,_⟩:=pc_head hqm
   have hlen:tl.length<q.len:=by
    rcases Nat.lt_or_ge tl.length q.len with h5|h5
    ·exact h5
    ·exact absurd (h1.eq_of_length (Nat.le_antisymm h1.length_le h5)) h2
   have hroom:q.len≤roomAt a:=by have:=hq.2.1;unfold roomAt;omega
   have hrest:restOf a tl=tl:=by unfold restOf;exact List.take_of_length_le (by omega)
   rw[hrest]at e2
   obtain⟨w,hw⟩:=h1
   rw[e2,q1,q3]at hw
   have hpl2:p.len≤tl.length:=by rw[e2,List.length_append];show p.list.length≤_;omega
   have hb:q.len<65536:=by have:=hq.2.1;omega
   simp only[List.cons_append,List.append_assoc,List.cons.injEq]at hw
   have h7:=(List.append_inj hw.2 (by rw[low_length,low_length])).1
   have:=low2_inj (by omega) hb h7
   omega
  ·-- noughts
   have hh:(restOf a tl).head? = some 0:=by
    unfold restOf
    rw[List.head?_take,if_neg (by omega)]
    exact h1
   rw[e2,q1]at hh
   simp at hh
   exact q2 hh
theorem wl_mem (b:Nat):∀(qs:List Pc) (off:Nat) (x:WaitS),x∈wl b off qs→∃qa q qb,qs=qa++q :: qb∧x=⟨b,off+(flat qa).length,bA q.list⟩
 | [],_,x,h=>by cases h
 | q :: qs,off,x,h=>by
  rcases List.mem_cons.1 h with rfl|h
  ·exact⟨[],q,qs,rfl,rfl⟩
  ·obtain⟨qa,r,qb,e1,e2⟩:=wl_mem b qs _ x h
   exact⟨q :: qa,r,qb,by rw[e1];rfl,by rw[e2,flat_len_cons,Nat.add_assoc]⟩
theorem FileW.app {ws:List WaitS} {f:FileS} {P Q:List Pc} (h:FileW ws f P Q):AppF ws f:=by
 refine⟨by rw[h.image,h.now,bA_list,bA_list,flat_append];exact List.prefix_append _ _,fun x hx hb=>?_⟩
 have hm:x∈wl f.blk (flat P).length Q:=by rw[←h.waits];exact List.mem_filter.2 ⟨hx,decide_eq_true hb⟩
 obtain⟨qa,q,qb,e1,e2⟩:=wl_mem _ _ _ _ hm
 subst e2
 have hn:f.now.data.toList=flat P++(flat qa++(q.list++flat qb)):=by rw[h.now,bA_list,e1,flat_append,flat_append,flat_cons]
 refine⟨by rw[h.image,bA_size];simp only;omega,?_,?_⟩
 ·simp only
  rw[hn,←List.append_assoc,←List.length_append,List.drop_left,bA_size,bA_list,List.take_left]
 ·simp only
  have hsz:f.now.size=f.now.data.toList.length:=(size_toList _).symm
  rw[hsz,hn,bA_size]
  simp only[List.length_append]
  omega
theorem FileW.crashed {ws:List WaitS} {f:FileS} {P Q:List Pc} (h:FileW ws f P Q) (keep:List Bool) (lack:Nat):∃A C tl,Q=A++C∧(lays f.image f.blk (keptTo keep lack ws (min keep.length ws.length))).data.toList=flat P++(flat A++tl)∧Broken C tl ∧
  (flat P++(flat A++tl)).length≤(flat (P++Q)).length:=by
 have hk:=kept_of f.blk lack ws keep
 rw[h.waits]at hk
 obtain⟨A,C,tl,e1,e2,e3⟩:=lays_pieces f.blk Q (flat P).length _ f.image (by rw[h.image,bA_size]) hk
 rw[←lays_filter,h.image,bA_list]at e2
 refine⟨A,C,tl,e1,by rw[h.image];exact e2,e3,?_⟩
 have:=(h.app.crashed keep lack (min keep.length ws.length)).most
 rw[h.image,e2,h.now,bA_list]at this
 exact this
theorem catP_le (F:Nat→List Pc) {i:Nat}:∀ {j:Nat},i≤j→∃r,catP F j=catP F i++r
 | 0,h=>⟨[],by(obtain rfl:i=0:=by omega);rw[List.append_nil]⟩
 | j+1,h=>by
  by_cases e:i=j+1
  ·subst e;exact⟨[],(List.append_nil _).symm⟩
  ·obtain⟨r,hr⟩:=catP_le F (i:=i) (j:=j) (by omega)
   exact⟨r++F j,by show catP F j++F j=_;rw[hr,List.append_assoc]⟩
theorem flat_cat (F:Nat→List Pc):∀n,flat (catP F n)=concatN (fun i=>flat (F i)) n
 | 0=>rfl
 | n+1=>by
  show flat (catP F n++F n)=concatN _ n++flat (F n)
  rw[flat_append,flat_cat F n]
structure Stand (P Q:Nat→List Pc) (L:Nat→List UInt8) (sf j:Nat) (ps1 ps2:List Pc) (tl:List UInt8):Prop where
 all:catP (fun i=>P i++Q i) j=ps1++ps2
 bytes:concatN L j=flat ps1++tl
 ends:(ps2=[]∧tl=[])∨∃q r,ps2=q :: r∧((tl <+: q.list∧tl≠q.list∧(concatN L j).length<j * 1024)∨tl.head? = some 0)
 safe:min sf (catP (fun i=>P i++Q i) j).length≤ps1.length
theorem Stand.go {P Q A C:Nat→List Pc} {T:Nat→List UInt8} {L:Nat→List UInt8} {sf cnt:Nat} (hQ:∀i,i<cnt→Q i=A i++C i) (hL:∀i,i<cnt→L i=flat (P i)++(flat (A i)++T i)) (hB:∀i,i<cnt→Broken (C i) (T i)) (hle:∀i,i<cnt→(flat (P i++Q i)).length≤1024)
  (hsf:∀i,i<cnt→min sf (catP (fun i=>P i++Q i) (i+1)).length≤(catP (fun i=>P i++Q i) i).length+(P i).length) {k:Nat} (hk:k≤cnt) (hfull:∀i,i+1<k→(L i).length=1024) :
  ∀j,j≤k→∃ps1 ps2 tl,Stand P Q L sf j ps1 ps2 tl
 | 0,_=>⟨[],[],[],rfl,rfl,.inl ⟨rfl,rfl⟩,Nat.min_le_right _ _⟩
 | j+1,hj=>by
  obtain⟨ps1,ps2,tl,h⟩:=Stand.go hQ hL hB hle hsf hk hfull j (by omega)
  have hjc:j<cnt:=by omega
  have hlen:(concatN L j).length=j * 1024:=by
   rw[concat_length (L:=L) (size:=1024) j (fun i hi=>hfull i (by omega))]
   cases j with
   | zero=>rfl
   | succ i=>rw[if_neg (by omega),Nat.add_sub_cancel,hfull i (by omega)];omega
  have hs:=hsf j hjc
  rcases h.ends with ⟨rfl,rfl⟩|⟨q,r,rfl,he⟩
  ·have ha:=h.all
   have hb:=h.bytes
   rw[List.append_nil]at ha hb
   refine⟨ps1++(P j++A j),C j,T j,?_,?_,?_,?_⟩
   ·show catP _ j++(P j++Q j)=_
    rw[ha,hQ j hjc];simp only[List.append_assoc]
   ·show concatN L j++L j=_
    rw[hb,hL j hjc,flat_append,flat_append];simp only[List.append_assoc]
   ·have hb2:=hB j hjc
    cases hc:C j with
    | nil=>rw[hc]at hb2;exact .inl ⟨rfl,hb2⟩
    | cons q r =>
     rw[hc]at hb2
     refine .inr ⟨q,r,rfl,?_⟩
     rcases hb2 with ⟨h1,h2⟩|h1
     ·refine .inl ⟨h1,h2,?_⟩
      show (concatN L j++L j).length<_
      have h3:=hle j hjc
      have h4:(T j).length<q.len:=by
       rcases Nat.lt_or_ge (T j).length q.len with h5|h5
       ·exact h5
       ·exact absurd (h1.eq_of_length (Nat.le_antisymm h1.length_le h5)) h2
      rw[hQ j hjc,hc,flat_append,flat_append,flat_cons]at h3
      simp only[List.length_append]at h3
      have h6:q.list.length=q.len:=rfl
      rw[List.length_append,hlen,hL j hjc,List.length_append,List.length_append]
      omega
     ·exact .inr h1
   ·rw[List.length_append,List.length_append]
    have hq:(catP (fun i=>P i++Q i) j).length=ps1.length:=by rw[ha]
    omega
  ·refine⟨ps1,q :: r++(P j++Q j),tl++L j,?_,?_,.inr ⟨q,r++(P j++Q j),rfl,.inr ?_⟩,?_⟩
   ·show catP _ j++(P j++Q j)=_
    rw[h.all,List.append_assoc]
   ·show concatN L j++L j=_
    rw[h.bytes,List.append_assoc]
   ·rcases he with ⟨_,_,h3⟩|h3
    ·omega
    ·cases tl with
     | nil=>cases h3
     | cons x tl=>exact h3
   ·have h3:=h.safe
    have h4:=congrArg List.length h.all
    rw[List.length_append,List.length_cons]at h4
    omega
theorem crash_tape {D:DiskS} {R:RowS} {ps:List Pc} {sf c m:Nat} (hW:Wk D R ps sf) (h:Holds D R (flat ps)) (hf:FitL R.start ps) (hz:R.size=1024) (hst:R.start=0) (hF:dk.Form D) (hG:dk.Good D) (hac:D.cap=(c:Int)) (has:D.size≤m) (haf:(D.files.map (·.name)).length≤m) (han:∀s∈D.files.map (·.name),s.size≤1000) (keep:List Bool) (lack:Int) :
  ∃E R1 ps1 ps2 tl,openD (D.crashed keep lack) R.head 1024=(0,E,R1)∧ps=ps1++ps2∧sf≤ps1.length∧Holds E R1 (flat ps1++tl)∧Able E c m∧R1.start=0∧R1.head=R.head∧R1.size=1024∧R1.synced=0∧E.waits=[]∧NoPc (flat ps1).length tl:=by
 obtain⟨P,Q,w1,w2,w3,w4⟩:=hW
 have hsz:=h.size
 have hfile:∀i,∃A C:List Pc,∃T L:List UInt8,i<R.cnt→Q i=A++C∧L=flat (P i)++(flat A++T)∧Broken C T∧(D.crashed keep lack).bytes (nameB R.head (R.start+i * R.size))=some (bA L)∧L.length≤(flat (P i++Q i)).length∧flat (P i++Q i)=segL (flat ps) R.size i:=fun i=>by
  by_cases hi:i<R.cnt
  ·obtain⟨f,hfd,hfn⟩:=bytes_some (h.segs i hi)
   have hw:=w2 i hi f hfd
   obtain⟨A,C,tl,e1,e2,e3,e4⟩:=hw.crashed keep lack.toNat
   refine⟨A,C,tl,_,fun _=>⟨e1,rfl,e3,?_,e4,?_⟩⟩
   ·unfold DiskS.bytes
    rw[crashed_find,hfd]
    show some _=_
    congr 1
    refine ba_ext ?_
    rw[bA_list,←e2]
   ·have:=hw.now
    rw[hfn]at this
    have h2:=congrArg (fun x:ByteArray=>x.data.toList) this
    have h3:(bA (segL (flat ps) R.size i)).data.toList=(bA (flat (P i++Q i))).data.toList:=h2
    rw[bA_list,bA_list]at h3
    exact h3.symm
  ·exact⟨[],[],[],[],fun hh=>absurd hh hi⟩
 obtain⟨A,hA⟩:=Classical.axiomOfChoice hfile
 obtain⟨C,hC⟩:=Classical.axiomOfChoice hA
 obtain⟨T,hT⟩:=Classical.axiomOfChoice hC
 obtain⟨L,hL⟩:=Classical.axiomOfChoice hT
 have hle:∀i,i<R.cnt→(flat (P i++Q i)).length≤1024:=fun i hi=>by
  rw[(hL i hi).2.2.2.2.2,seg_length,hz];exact Nat.min_le_left _ _
 obtain⟨E,R1,k,x1,x2,x3,x4,x5,x6,x7,x8,x9,x10,x11,x12⟩:=crash_row h hF hG hac has haf han hst keep lack L (fun i hi=>⟨(hL i hi).2.2.2.1,by have:=hle i hi;have:=(hL i hi).2.2.2.2.1;omega⟩)
 rw[hz]at x1 x4 x5 x10
 obtain⟨ps1,ps2,tl,hS⟩:=Stand.go (P:=P) (Q:=Q) (A:=A) (C:=C) (T:=T) (L:=L) (sf:=sf) (cnt:=R.cnt) (fun i hi=>(hL i hi).1) (fun i hi=>(hL i hi).2.1) (fun i hi=>(hL i hi).2.2.1) hle w3 x2 x4 k (Nat.le_refl _)
 obtain⟨rest,hr⟩:=catP_le (fun i=>P i++Q i) x2
 have hps:ps=ps1++(ps2++rest):=by rw[w1,hr,hS.all,List.append_assoc]
 have hfp:=hf
 rw[hps,fitL_append,hst,Nat.zero_add]at hfp
 refine⟨E,R1,ps1,ps2++rest,tl,x1,hps,?_,by rw[←hS.bytes];exact x6,x7,x8,x9,x10,x11,x12,?_⟩
 ·have h3:=hS.safe
  have h4:=congrArg List.length hS.all
  rw[List.length_append]at h4
  by_cases hk:k=R.cnt
  ·rw[hk,←w1]at h3;omega
  ·rcases hS.ends with ⟨rfl,rfl⟩|⟨q,r,rfl,_⟩
   ·exfalso
    have h5:=x5 (by omega)
    have h6:=x3 (by omega)
    obtain⟨k',rfl⟩:∃k',k=k'+1:=⟨k-1,by omega⟩
    have ha:=hS.all
    have hb:=hS.bytes
    rw[List.append_nil]at ha hb
    rw[←ha,flat_cat]at hb
    have h7:=congrArg List.length hb
    have hfl:∀i,i<R.cnt-1→(flat (P i++Q i)).length=1024:=fun i hi=>by
     rw[(hL i (by omega)).2.2.2.2.2,seg_length,hz]
     have h8:=h.lastLen (by omega)
     rw[hz]at h8
     have:=plc_lt (size:=1024) (show i<R.cnt-1 by omega)
     omega
    rw[concat_length (L:=L) (size:=1024) (k'+1) x4,concat_length (size:=1024) (k'+1) (fun i hi=>hfl i (by omega)),if_neg (by omega),if_neg (by omega)]at h7
    have h9:=hfl k' (by omega)
    simp only[Nat.add_sub_cancel]at h7 h5
    omega
   ·rw[List.length_cons]at h4
    omega
 ·refine broken_nopc (c:=ps2) (fun q r e=>?_) ?_
  ·have:=hfp.2
   rw[e]at this
   exact this.1
  ·rcases hS.ends with ⟨rfl,rfl⟩|⟨q,r,rfl,he⟩
   ·rfl
   ·rcases he with ⟨h1,h2,_⟩|h1
    ·exact .inl ⟨h1,h2⟩
    ·exact .inr h1
end Go.Proofs.YtiahjipoofeliaaGreatDoor.tp
