/- Lemmas for this claim. -/
import Derived.Deep.RegionLaw
import Derived.Test.YtiahjipoofeliaaGreatDoorPk22
set_option maxRecDepth 100000
namespace Go.Proofs.YtiahjipoofeliaaGreatDoor.sg
open Go.ChangeShapes Go.WideShapes Go.ChangeAt Go.RowKit
open dk
theorem step_append {P:Program} {ops:Array Oper} {o:Oper} {a:Act} {w:World} {K:Act→World→Prop} {Q:Exit→Act→World→Prop} {E:Prop}
  (hg:o.guard=none) (s x:Operand) (t:TypeId) (hop:o.op=Op.call { callee:=Callee.builtin Builtin.append,args:=#[s,x],argTypes:=#[t,t] })
  (vs vx:Value) (hs:a.eval s=vs) (hx:a.eval x=vx) (v':Value) (w':World) (hrun:(Builtin.append_ #[t,t] o.type #[vs,vx]).run P w=.ok v' w') (hK:K (a.put o.dst v') w') :
  if Region.wanted o (yielded ops a.tmps)=true then Oper.wp P o a w K Q else E:=by
 have hw:Region.wanted o (yielded ops a.tmps)=true:=by simp [Region.wanted,hg]
 rw[if_pos hw]
 unfold Oper.wp
 simp [execOp,hop,resolve,invoke,builtin,hs,hx,hrun,Result.andThen]
 exact hK
theorem err_cases (r:Int):r=0∨(Box (r≠0)∧(r==0)=false∧(r != 0)=true):=by
 by_cases h:r=0
 ·exact .inl h
 ·exact .inr ⟨box h,beq_eq_false_iff_ne.2 h,bne_iff_ne.2 h⟩
section
variable {W w w':World} {r p n:Nat} {R R':RowS} {v v':Value} {D D':DiskS} {F F':Nat→Prop}
def FreshDone (W:World) (r p n:Nat) (D:DiskS) (R:RowS) (F:Nat→Prop) (v:Value) (w:World) (e:Ending) (w':World):Prop :=
 ∃b F' v',w.heap.size≤b∧e=.returned (.int .i64 (freshD D R b).1)∧SegAt W w' r p n (freshD D R b).2.1 (freshD D R b).2.2 F' v'∧SegStep w r F v w' F' v'
theorem more_places (h:RowOk R) (hf:R.isFresh=false):R.more.places=R.places++[R.fin]:=by
 show plc R.start R.size (R.cnt+1)=plc R.start R.size R.cnt++[R.fin]
 rw[plc_snoc,(h.fresh hf).1];rfl
theorem more_done {w6:World} (hf:R.isFresh=false) (hl:R.fin≤99999999) (h:SegAt W w r p n D R F v) (hk:Keeps (fun g=>v.ownBlock=some g) w w6) (hrow:w6.ownsRow 0 3 1 v' (R.places++[R.fin]).length (intN (R.places++[R.fin])))
  (hg:∀g,v'.ownBlock=some g→v.ownBlock=some g∨w.heap.size≤g) :
  w6.heap[r]? = some (.cells (rowCells p R v) 128 (0,0))∧SegAt W (w6.setCell ⟨r,3,none⟩ v') r p n D R.more F v'∧SegStep w r F v (w6.setCell ⟨r,3,none⟩ v') F v':=by
 have h6:=(hk.block r (heap_lt h.row.at_) (fun e=>row_ne h.row e)).trans h.row.at_
 have hk7:Keeps (rfoot r v) w (w6.setCell ⟨r,3,none⟩ v'):=(hk.mono (fun b _ hb=>.inr hb)).setCell (p:=⟨r,3,none⟩) (.inl (.inl rfl)) _
 have hne:v'.ownBlock≠some r:=fun e=>by
  rcases hg r e with h1|h1
  ·exact row_ne h.row h1
  ·have:=heap_lt h.row.at_;omega
 have hst:SegStep w r F v (w6.setCell ⟨r,3,none⟩ v') F v':=⟨hk7.mono (fun _ _ hb=>.inr hb),fun _ hb=>.inl hb,hg⟩
 refine⟨h6,h.next (h.disk.keep hk7 (fun b hb hx=>?_)) ⟨heap_set h6 3 v',?_,(h.row.ok.more hf hl).1⟩ hst,hst⟩
 ·rcases hx with rfl|hx
  ·exact row_apart h.disk h.row.at_ hb
  ·exact places_apart h.disk h.row hx hb
 ·have hr:(w6.setCell ⟨r,3,none⟩ v').ownsRow 0 3 1 v' (R.places++[R.fin]).length (intN (R.places++[R.fin])):=row_same hrow (fun g e=>heap_set_other (fun e2=>hne (by rw[←e2];exact e)) 3 v')
  rw[List.length_append,RowS.length,←more_places h.row.ok hf]at hr
  exact hr
set_option maxHeartbeats 8000000 in
theorem fresh_any (w:World) (h:SegAt W w r p n D R F v) :
  Calls Tryz.prog 88 #[ptrTo r] w (FreshDone W r p n D R F v w):=by
 have H:=box h
 obtain⟨c0,c1,c2,c3,c4,c5⟩:=h.row.cells
 have hlt:=heap_lt h.row.at_
 obtain⟨a,cap,rfl,hcap,hmx,hel⟩:=h.row.uni
 have hok:=h.row.ok
 have hfew:=hok.few
 have hle:=hok.le
 have HR:=box (fun n=>Room_quiet w n h.row)
 have hsame:∀w',Calm w w'→R.isFresh=true→FreshDone W r p n D R F (.slice a R.cnt cap) w (.returned (.int .i64 0)) w':=fun w' hc hf=>by
  have hr:freshD D R w.heap.size=(0,D,R):=by unfold freshD;rw[if_pos hf]
  exact⟨w.heap.size,F,_,Nat.le_refl _,by rw[hr],by rw[hr];exact H.out.drew hc,SegStep.of_calm hc⟩
 have Hsame:=box hsame
 have Hcap:=box hcap
 have Hmx:=box hmx
 clear h hcap hmx hsame
 have Q1:=box (show 0<R.cnt→IntKind.i64.wrap ((R.cnt:Int)-1)=((R.cnt-1:Nat):Int) from fun h0=>by rw[IntWalk.i64_in _ (by omega)];omega)
 by_cases h1:R.room<R.size
 ·have hf:R.isFresh=true:=by unfold RowS.isFresh;simp [h1]
  have Hf:=box hf
  have t1:decide (R.room<R.size)=true:=decide_eq_true h1
  clear hel hok hfew hf hle
  go_enter Tryz.func88,Tryz.ntmps88
  go_wp2_with (first|go_quiet ((go_at_call 87;exact HR.out _))|fail)
  go_ret
  exact Hsame.out _ ((Calm.refl w).drewN _) Hf.out
 have t1:decide (R.room<R.size)=false:=decide_eq_false h1
 by_cases h2:0<R.cnt∧R.fin=R.lastp
 ·have hf:R.isFresh=true:=by unfold RowS.isFresh;simp [h2]
  have Hf:=box hf
  obtain⟨h0,h2⟩:=h2
  obtain⟨b,rfl,hb,hc⟩:=hel (R.cnt-1) (by omega)
  have hls:R.start+(R.cnt-1) * R.size=R.lastp:=rfl
  rw[hls,←h2]at hc
  have q1:=Q1.out h0
  obtain⟨m,hm⟩:∃m,R.cnt-1=m:=⟨_,rfl⟩
  rw[hm]at hc q1
  have hmn:m<R.cnt:=by omega
  have Hcap2:=Hcap.out
  clear hel hok hfew hf hle hls h2 hm
  go_enter Tryz.func88,Tryz.ntmps88
  go_wp2_with (first|go_quiet ((go_at_call 87;exact HR.out _))|fail)
  go_ret
  exact Hsame.out _ ((Calm.refl w).drewN _) Hf.out
 have hf:R.isFresh=false:=by
  unfold RowS.isFresh
  rw[t1,Bool.false_or,Bool.and_eq_false_iff]
  by_cases h0:0<R.cnt
  ·exact .inr (decide_eq_false (fun e=>h2 ⟨h0,e⟩))
  ·exact .inl (decide_eq_false h0)
 have Hf:=box hf
 have Hok:=box hok
 have hname:=box (fun (W':World) (hc:Calm w W') (hl:R.fin≤99999999)=>Name_in R.head R.fin W' hok.head (by omega) (tab_calm H.out.tab' hc))
 have hout:=box (fun (W':World) (hl:99999999<R.fin)=>Name_out R.head (R.fin:Int) W' (by omega))
 have hdisk:=box (fun (W':World) (hc:Calm w W')=>Create_ok (nameB R.head R.fin) W' (H.out.disk.calm hc))
 have hcr:∀b,R.fin≤99999999→freshD D R b=if (D.create (nameB R.head R.fin) b).1≠0 then ((D.create (nameB R.head R.fin) b).1,(D.create (nameB R.head R.fin) b).2,R) else (0,(D.create (nameB R.head R.fin) b).2,R.more):=fun b hl=>by
  unfold freshD;rw[if_neg (by rw[hf];decide),if_neg (by omega)]
 have Hcr:=box hcr
 have hno:99999999<R.fin→∀b,freshD D R b=(2,D,R):=fun hl b=>by unfold freshD;rw[if_neg (by rw[hf];decide),if_pos hl]
 have Hno:=box hno
 have harm:(0<R.cnt∧¬R.fin=R.lastp)∨R.cnt=0:=by
  by_cases h0:0<R.cnt
  ·exact .inl ⟨h0,fun e=>h2 ⟨h0,e⟩⟩
  ·exact .inr (by omega)
 have hcells:=box (fun (W':World) (hc:Calm w W')=>(show W'.cell? ⟨r,1,none⟩=some (.string R.head)∧W'.cell? ⟨r,4,none⟩=some (.int .i64 R.fin) from ⟨cell_of (heap_calm hc H.out.row.at_) 1,cell_of (heap_calm hc H.out.row.at_) 4⟩))
 clear hcr hno hf h2 hok
 have Hfew:=box hfew
 have hle1:=hle.1
 clear hfew hle
 rcases harm with ⟨h0,h2⟩|h0
 ·obtain⟨b,rfl,hb,hc⟩:=hel (R.cnt-1) (by omega)
  have hls:R.start+(R.cnt-1) * R.size=R.lastp:=rfl
  rw[hls]at hc
  have q1:=Q1.out h0
  obtain⟨m,hm⟩:∃m,R.cnt-1=m:=⟨_,rfl⟩
  rw[hm]at hc q1
  have hmn:m<R.cnt:=by omega
  have hnb:(R.fin==R.lastp)=false:=beq_eq_false_iff_ne.2 h2
  have hnb2:((R.fin:Int)==(R.lastp:Int))=false:=beq_eq_false_iff_ne.2 (by omega)
  have Hcap2:=Hcap.out
  obtain⟨lp,hlp⟩:∃lp,R.lastp=lp:=⟨_,rfl⟩
  rw[hlp]at hc hnb hnb2
  clear hel hls h2 hm hlp
  by_cases hl:R.fin≤99999999
  ·go_enter Tryz.func88,Tryz.ntmps88
   go_upto_region 3 with (first|go_quiet ((go_at_call 87;exact HR.out _))|fail)
   have hCq:Calm w (w.drewN nq):=(Calm.refl w).drewN nq
   have k1:(w.drewN nq).cell? ⟨r,1,none⟩=some (.string R.head):=c1
   have k4:(w.drewN nq).cell? ⟨r,4,none⟩=some (.int .i64 R.fin):=c4
   have klt:r<(w.drewN nq).heap.size:=hlt
   clear c0 c1 c2 c3 c4 c5 hlt
   generalize w.drewN nq=wq at hCq k1 k4 klt ⊢
   go_region_held3 (fun w'=>w'.cell? ⟨r,1,none⟩=some (.string R.head)∧w'.cell? ⟨r,4,none⟩=some (.int .i64 R.fin)) (first|go_keep|exact hcells.out _ (by exact cm)) ((go_at_call 137;refine(hname.out _ (by exact cm) hl).mono ?_;rintro e w3 ⟨rfl,hc3⟩))
   have HC3:=box (show Calm w w3 by exact cm)
   have hat:=heap_calm HC3.out H.out.row.at_
   clear hc3 hCq k1 k4 klt
   have d0:=(H.out.row.calm HC3.out).cells.1
   have dlt:=heap_lt hat
   go_wp2_with fail
   refine(hdisk.out _ HC3.out).mono ?_
   rintro e w4 ⟨b4,hb4,h4⟩
   obtain⟨⟨c4,D4⟩,hr4⟩:∃x,D.create (nameB R.head R.fin) b4=x:=⟨_,rfl⟩
   obtain⟨rfl,F4,hd4,hs4⟩:=h4.at hr4
   have hfr:=Hcr.out b4 hl
   rw[hr4]at hfr
   have Hfr:=box hfr
   have S4:=(H.out.drew HC3.out).disked hd4 hs4
   have HS4:=box S4.1
   have HT4:=box (SegStep.trans (SegStep.of_calm HC3.out) S4.2)
   have Hb4:=box (Nat.le_trans HC3.out.size hb4)
   clear hfr S4 hd4 hs4 h4 hb4 hr4 d0 dlt hat
   rcases err_cases c4 with rfl|⟨x1,x2,x3⟩
   ·have hat:=HS4.out.row.at_
    have d3:=HS4.out.row.cells.2.2.2.1
    have d4:=HS4.out.row.cells.2.2.2.2.1
    have dlt:=heap_lt hat
    clear hat
    go_upto_region 9 with fail
    have hcal:Calm w4 (w4.drew.alloc (.cells #[.int .i64 (R.fin:Int)] 3)):=by exact cm
    have hSa:=HS4.out.drew hcal
    have hnew:(w4.drew.alloc (.cells #[.int .i64 (R.fin:Int)] 3)).heap[w4.heap.size]? = some (.cells #[.int .i64 (R.fin:Int)] 3 (0,0)):=heap_new w4.drew _
    obtain⟨v2,w6,happ,hrow6,hk6,hg6⟩:=append_place (w4.drew.alloc (.cells #[.int .i64 (R.fin:Int)] 3)) (.slice (some ⟨b,0,none⟩) R.cnt cap) R.places R.fin w4.heap.size (by rw[RowS.length];exact hSa.row.row) hnew (by rw[RowS.length];have:=Hfew.out;omega) 69
    obtain⟨a2,n2,cp2,rfl⟩:=row_slice hrow6
    obtain⟨h6,hS7,hT7⟩:=more_done Hf.out hl hSa hk6 hrow6 hg6
    have e3:w6.cell? ⟨r,3,none⟩=some (.slice (some ⟨b,0,none⟩) R.cnt cap):=cell_of h6 3
    have e4:w6.cell? ⟨r,4,none⟩=some (.int .i64 R.fin):=cell_of h6 4
    have e5:(w6.setCell ⟨r,3,none⟩ (.slice a2 n2 cp2)).cell? ⟨r,4,none⟩=some (.int .i64 R.fin):=cell_of (heap_set h6 3 _) 4
    have g3:=free_of h6 3
    have elt:=heap_lt h6
    have HS7:=box hS7
    have HT7:=box (HT4.out.trans (SegStep.trans (SegStep.of_calm hcal) hT7))
    clear hSa hrow6 hk6 hg6 hS7 hT7 h6 hcal hnew
    go_region_law (refine step_append rfl (.tmp 67) (.tmp 72) 69 rfl _ _ (by simp [Act.eval,Act.put]) (by simp [Act.eval,Act.put]) _ w6 happ ?_)
    all_goals
     go_wp2_with fail
     go_ret
     have hr:freshD D R b4=(0,D4,R.more):=by rw[Hfr.out];simp
     exact⟨b4,F4,_,Hb4.out,by rw[hr];rfl,by rw[hr];exact HS7.out,HT7.out⟩
   ·go_wp2_with fail
    go_ret
    have hr:freshD D R b4=(c4,D4,R):=by rw[Hfr.out,if_pos x1.out]
    exact⟨b4,F4,_,Hb4.out,by rw[hr];rfl,by rw[hr];exact HS4.out,HT4.out⟩
  ·go_enter Tryz.func88,Tryz.ntmps88
   go_upto_region 3 with (first|go_quiet ((go_at_call 87;exact HR.out _))|fail)
   have hCq:Calm w (w.drewN nq):=(Calm.refl w).drewN nq
   have k1:(w.drewN nq).cell? ⟨r,1,none⟩=some (.string R.head):=c1
   have k4:(w.drewN nq).cell? ⟨r,4,none⟩=some (.int .i64 R.fin):=c4
   have klt:r<(w.drewN nq).heap.size:=hlt
   clear c0 c1 c2 c3 c4 c5 hlt
   generalize w.drewN nq=wq at hCq k1 k4 klt ⊢
   go_region_held3 (fun w'=>w'.cell? ⟨r,1,none⟩=some (.string R.head)∧w'.cell? ⟨r,4,none⟩=some (.int .i64 R.fin)) (first|go_keep|exact hcells.out _ (by exact cm)) ((go_at_call 137;refine(hout.out _ (by omega)).mono ?_;rintro e w3 ⟨rfl,hc3⟩))
   have HC3:=box (show Calm w w3 by exact cm)
   clear hc3 hCq k1 k4 klt
   go_wp2_with fail
   go_ret
   have hr:=Hno.out (by omega) w.heap.size
   exact⟨w.heap.size,F,_,Nat.le_refl _,by rw[hr];rfl,by rw[hr];exact H.out.drew HC3.out,SegStep.of_calm HC3.out⟩
 ·have c3':=c3
  rw[h0]at c3
  clear hel c3' h0
  by_cases hl:R.fin≤99999999
  ·go_enter Tryz.func88,Tryz.ntmps88
   go_upto_region 3 with (first|go_quiet ((go_at_call 87;exact HR.out _))|fail)
   have hCq:Calm w (w.drewN nq):=(Calm.refl w).drewN nq
   have k1:(w.drewN nq).cell? ⟨r,1,none⟩=some (.string R.head):=c1
   have k4:(w.drewN nq).cell? ⟨r,4,none⟩=some (.int .i64 R.fin):=c4
   have klt:r<(w.drewN nq).heap.size:=hlt
   clear c0 c1 c2 c3 c4 c5 hlt
   generalize w.drewN nq=wq at hCq k1 k4 klt ⊢
   go_region_held3 (fun w'=>w'.cell? ⟨r,1,none⟩=some (.string R.head)∧w'.cell? ⟨r,4,none⟩=some (.int .i64 R.fin)) (first|go_keep|exact hcells.out _ (by exact cm)) ((go_at_call 137;refine(hname.out _ (by exact cm) hl).mono ?_;rintro e w3 ⟨rfl,hc3⟩))
   have HC3:=box (show Calm w w3 by exact cm)
   have hat:=heap_calm HC3.out H.out.row.at_
   clear hc3 hCq k1 k4 klt
   have d0:=(H.out.row.calm HC3.out).cells.1
   have dlt:=heap_lt hat
   go_wp2_with fail
   refine(hdisk.out _ HC3.out).mono ?_
   rintro e w4 ⟨b4,hb4,h4⟩
   obtain⟨⟨c4,D4⟩,hr4⟩:∃x,D.create (nameB R.head R.fin) b4=x:=⟨_,rfl⟩
   obtain⟨rfl,F4,hd4,hs4⟩:=h4.at hr4
   have hfr:=Hcr.out b4 hl
   rw[hr4]at hfr
   have Hfr:=box hfr
   have S4:=(H.out.drew HC3.out).disked hd4 hs4
   have HS4:=box S4.1
   have HT4:=box (SegStep.trans (SegStep.of_calm HC3.out) S4.2)
   have Hb4:=box (Nat.le_trans HC3.out.size hb4)
   clear hfr S4 hd4 hs4 h4 hb4 hr4 d0 dlt hat
   rcases err_cases c4 with rfl|⟨x1,x2,x3⟩
   ·have hat:=HS4.out.row.at_
    have d3:=HS4.out.row.cells.2.2.2.1
    have d4:=HS4.out.row.cells.2.2.2.2.1
    have dlt:=heap_lt hat
    clear hat
    go_upto_region 9 with fail
    have hcal:Calm w4 (w4.drew.alloc (.cells #[.int .i64 (R.fin:Int)] 3)):=by exact cm
    have hSa:=HS4.out.drew hcal
    have hnew:(w4.drew.alloc (.cells #[.int .i64 (R.fin:Int)] 3)).heap[w4.heap.size]? = some (.cells #[.int .i64 (R.fin:Int)] 3 (0,0)):=heap_new w4.drew _
    obtain⟨v2,w6,happ,hrow6,hk6,hg6⟩:=append_place (w4.drew.alloc (.cells #[.int .i64 (R.fin:Int)] 3)) (.slice a R.cnt cap) R.places R.fin w4.heap.size (by rw[RowS.length];exact hSa.row.row) hnew (by rw[RowS.length];have:=Hfew.out;omega) 69
    obtain⟨a2,n2,cp2,rfl⟩:=row_slice hrow6
    obtain⟨h6,hS7,hT7⟩:=more_done Hf.out hl hSa hk6 hrow6 hg6
    have e3:w6.cell? ⟨r,3,none⟩=some (.slice a R.cnt cap):=cell_of h6 3
    have e4:w6.cell? ⟨r,4,none⟩=some (.int .i64 R.fin):=cell_of h6 4
    have e5:(w6.setCell ⟨r,3,none⟩ (.slice a2 n2 cp2)).cell? ⟨r,4,none⟩=some (.int .i64 R.fin):=cell_of (heap_set h6 3 _) 4
    have g3:=free_of h6 3
    have elt:=heap_lt h6
    have HS7:=box hS7
    have HT7:=box (HT4.out.trans (SegStep.trans (SegStep.of_calm hcal) hT7))
    clear hSa hrow6 hk6 hg6 hS7 hT7 h6 hcal hnew
    go_region_law (refine step_append rfl (.tmp 67) (.tmp 72) 69 rfl _ _ (by simp [Act.eval,Act.put]) (by simp [Act.eval,Act.put]) _ w6 happ ?_)
    all_goals
     go_wp2_with fail
     go_ret
     have hr:freshD D R b4=(0,D4,R.more):=by rw[Hfr.out];simp
     exact⟨b4,F4,_,Hb4.out,by rw[hr];rfl,by rw[hr];exact HS7.out,HT7.out⟩
   ·go_wp2_with fail
    go_ret
    have hr:freshD D R b4=(c4,D4,R):=by rw[Hfr.out,if_pos x1.out]
    exact⟨b4,F4,_,Hb4.out,by rw[hr];rfl,by rw[hr];exact HS4.out,HT4.out⟩
  ·go_enter Tryz.func88,Tryz.ntmps88
   go_upto_region 3 with (first|go_quiet ((go_at_call 87;exact HR.out _))|fail)
   have hCq:Calm w (w.drewN nq):=(Calm.refl w).drewN nq
   have k1:(w.drewN nq).cell? ⟨r,1,none⟩=some (.string R.head):=c1
   have k4:(w.drewN nq).cell? ⟨r,4,none⟩=some (.int .i64 R.fin):=c4
   have klt:r<(w.drewN nq).heap.size:=hlt
   clear c0 c1 c2 c3 c4 c5 hlt
   generalize w.drewN nq=wq at hCq k1 k4 klt ⊢
   go_region_held3 (fun w'=>w'.cell? ⟨r,1,none⟩=some (.string R.head)∧w'.cell? ⟨r,4,none⟩=some (.int .i64 R.fin)) (first|go_keep|exact hcells.out _ (by exact cm)) ((go_at_call 137;refine(hout.out _ (by omega)).mono ?_;rintro e w3 ⟨rfl,hc3⟩))
   have HC3:=box (show Calm w w3 by exact cm)
   clear hc3 hCq k1 k4 klt
   go_wp2_with fail
   go_ret
   have hr:=Hno.out (by omega) w.heap.size
   exact⟨w.heap.size,F,_,Nat.le_refl _,by rw[hr];rfl,by rw[hr];exact H.out.drew HC3.out,SegStep.of_calm HC3.out⟩
end
section
variable {W w w':World} {r p n:Nat} {R R':RowS} {v v':Value} {D D':DiskS} {F F':Nat→Prop}
theorem SegAt.set (h:SegAt W w r p n D R F v) (k:Nat) (u:Value) (hc:(rowCells p R v).setIfInBounds k u=rowCells p R' v) (hp:R'.cnt=R.cnt∧R'.places=R.places) (ok:RowOk R') :
  SegAt W (w.setCell ⟨r,k,none⟩ u) r p n D R' F v∧SegStep w r F v (w.setCell ⟨r,k,none⟩ u) F v:=by
 have hk:Keeps (rfoot r v) w (w.setCell ⟨r,k,none⟩ u):=(Keeps.refl _ _).setCell (p:=⟨r,k,none⟩) (.inl (.inl rfl)) _
 have hst:SegStep w r F v (w.setCell ⟨r,k,none⟩ u) F v:=⟨hk.mono (fun _ _ hb=>.inr hb),fun _ hb=>.inl hb,fun _ hb=>.inl hb⟩
 refine⟨h.next (h.disk.keep hk (fun b hb hx=>?_)) ⟨?_,?_,ok⟩ hst,hst⟩
 ·rcases hx with rfl|hx
  ·exact row_apart h.disk h.row.at_ hb
  ·exact places_apart h.disk h.row hx hb
 ·rw[heap_set h.row.at_,hc]
 ·rw[hp.1,hp.2]
  exact row_same h.row.row (fun g e=>heap_set_other (fun e2=>row_ne h.row (by rw[←e2];exact e)) k u)
theorem last_cell (h:RowAt w r p R v) (h0:0<R.cnt):∃b cap,v=.slice (some ⟨b,0,none⟩) R.cnt cap∧R.cnt≤cap∧b<w.heap.size∧w.cell? ⟨b,R.cnt-1,none⟩=some (.int .i64 (R.lastp:Int)):=by
 obtain⟨a,cap,rfl,hcap,hmx,hel⟩:=h.uni
 obtain⟨b,rfl,hb,hc⟩:=hel (R.cnt-1) (by omega)
 exact⟨b,cap,rfl,hcap,hb,hc⟩
theorem room_size (h:DiskOk w p D F n):Calls Tryz.prog 64 #[ptrTo p] w fun e w'=>e=.returned (.int .i64 (D.cap-D.size))∧Calm w w' :=
 Room_any w h.lies (by have:=h.good.sizeN;omega) h.good.cap
def AppendDone (W:World) (r p n:Nat) (D:DiskS) (R:RowS) (F:Nat→Prop) (v:Value) (s:ByteArray) (w:World) (e:Ending) (w':World):Prop :=
 ∃b F' v',w.heap.size≤b∧e=.returned (.tuple #[.int .i64 (appendD D R s b).1.1,.int .i64 (appendD D R s b).1.2])∧SegAt W w' r p (n+1) (appendD D R s b).2.1 (appendD D R s b).2.2 F' v'∧SegStep w r F v w' F' v'
theorem refused {D:DiskS} {s:ByteArray} (h:SegAt W w r p n D R F v) (hc:Calm w w') (c:Int) (he:∀b,appendD D R s b=((0,c),D,R)):AppendDone W r p n D R F v s w (.returned (.tuple #[.int .i64 0,.int .i64 c])) w' :=
 ⟨w.heap.size,F,v,Nat.le_refl _,by rw[he],by rw[he];exact(h.drew hc).mono (Nat.le_succ _),SegStep.of_calm hc⟩
set_option maxHeartbeats 8000000 in
theorem Append_any (s:ByteArray) (w:World) (h:SegAt W w r p n D R F v) (hn:n≤999990) (hs:s.size≤9223372036854775807) :
  Calls Tryz.prog 44 #[ptrTo r,.string s] w (AppendDone W r p n D R F v s w):=by
 have H:=box h
 have hok:=h.row.ok
 have hroom:=hok.room
 have hz:=hok.size
 have Hok:=box hok
 have HR:=box (Room_row w h.row)
 obtain⟨c0,c1,c2,c3,c4,c5⟩:=h.row.cells
 have hlt:=heap_lt h.row.at_
 clear h hok c1 c2 c3 c4 c5
 by_cases h0:s.size=0
 ·have he:s.toList=[]:=by rw[Lib.toList_data];exact List.eq_nil_of_length_eq_zero (by simpa using h0)
  have hr:∀b,appendD D R s b=((0,1),D,R):=fun b=>by unfold appendD;rw[if_pos (.inl h0)]
  have Hr:=box hr
  clear hr h0
  go_enter Tryz.func44,Tryz.ntmps44
  go_wp2_with fail
  go_ret2
  exact refused H.out (Calm.refl _) 1 Hr.out
 have he:s.toList.isEmpty=false:=by rw[Lib.toList_data,List.isEmpty_eq_false_iff];intro h;apply h0;simpa using congrArg List.length h
 by_cases h1:R.room<s.size
 ·have hr:∀b,appendD D R s b=((0,1),D,R):=fun b=>by unfold appendD;rw[if_pos (.inr h1)]
  have Hr:=box hr
  have t1:decide (R.room<s.size)=true:=decide_eq_true h1
  clear hr h0
  go_enter Tryz.func44,Tryz.ntmps44
  go_wp2_with fail
  refine HR.out.mono ?_
  rintro e w1 ⟨rfl,m,rfl⟩
  go_wp2_with fail
  go_ret2
  exact refused H.out ((Calm.refl w).drewN m) 1 Hr.out
 have t1:decide (R.room<s.size)=false:=decide_eq_false h1
 have hr0:∀b,appendD D R s b=if D.cap-D.size<s.size∧D.down=false then ((0,7),D,R) else if (freshD D R b).1≠0 then ((0,(freshD D R b).1),(freshD D R b).2) else putD (freshD D R b).2.1 (freshD D R b).2.2 s:=fun b=>by
  unfold appendD;rw[if_neg (by intro h;exact h.elim h0 h1)]
 have HDR:=box (fun (W':World) (hc:Calm w W')=>room_size (H.out.disk.calm hc))
 have HDD:=box (fun (W':World) (hc:Calm w W')=>Down_any W' (H.out.disk.calm hc).lies)
 have Hroom:=box hroom
 have hz2:s.size≤4096:=by omega
 have hb1:=hroom.2
 clear hroom
 by_cases h2:D.cap-D.size<s.size∧D.down=false
 ·have hr:∀b,appendD D R s b=((0,7),D,R):=fun b=>by rw[hr0,if_pos h2]
  have Hr:=box hr
  obtain⟨h2,h3⟩:=h2
  have t2:decide (D.cap-(D.size:Int)<s.size)=true:=decide_eq_true h2
  rw[h3]at HDD
  clear hr hr0 h0 h2 h3
  go_enter Tryz.func44,Tryz.ntmps44
  go_wp2_with fail
  refine HR.out.mono ?_
  rintro e w1 ⟨rfl,m,rfl⟩
  have hc1:=box ((Calm.refl w).drewN m)
  go_wp2_with fail
  refine(HDR.out _ hc1.out).mono ?_
  rintro e w2 ⟨rfl,hc2⟩
  have HC2:=box (hc1.out.trans hc2)
  have d0:=(H.out.row.calm HC2.out).cells.1
  have dlt:=heap_lt (H.out.row.calm HC2.out).at_
  clear hc2
  go_wp2_with fail
  refine(HDD.out _ HC2.out).mono ?_
  rintro e w3 ⟨rfl,rfl⟩
  go_wp2_with fail
  go_ret2
  exact refused H.out HC2.out 7 Hr.out
 have hr1:∀b,appendD D R s b=if (freshD D R b).1≠0 then ((0,(freshD D R b).1),(freshD D R b).2) else putD (freshD D R b).2.1 (freshD D R b).2.2 s:=fun b=>by rw[hr0,if_neg h2]
 have Hr1:=box hr1
 have harm:D.cap-D.size<s.size∧D.down=true∨¬D.cap-(D.size:Int)<s.size:=by
  by_cases h3:D.cap-(D.size:Int)<s.size
  ·refine .inl ⟨h3,?_⟩
   cases hd:D.down
   ·exact absurd ⟨h3,hd⟩ h2
   ·rfl
  ·exact .inr h3
 have hle:=Hok.out.le
 clear hr0 hr1 h2 h0
 have hfresh:=box (fun (W':World) (hc:Calm w W')=>fresh_any W' (H.out.drew hc))
 rcases harm with ⟨h3,h4⟩|h3
 ·have t2:decide (D.cap-(D.size:Int)<s.size)=true:=decide_eq_true h3
  rw[h4]at HDD
  clear h3 h4
  go_enter Tryz.func44,Tryz.ntmps44
  go_wp2_with fail
  refine HR.out.mono ?_
  rintro e w1 ⟨rfl,m,rfl⟩
  have hc1:=box ((Calm.refl w).drewN m)
  go_wp2_with fail
  refine(HDR.out _ hc1.out).mono ?_
  rintro e w2 ⟨rfl,hc2⟩
  have HC3:=box (hc1.out.trans hc2)
  have d0:=(H.out.row.calm HC3.out).cells.1
  have dlt:=heap_lt (H.out.row.calm HC3.out).at_
  clear hc2
  go_wp2_with fail
  refine(HDD.out _ HC3.out).mono ?_
  rintro e w3 ⟨rfl,rfl⟩
  clear c0 hlt d0 dlt
  go_wp2_with fail
  refine(hfresh.out _ HC3.out).mono ?_
  rintro e w4 ⟨b,F4,v4,hb,rfl,hS4,hT4⟩
  have hfo:=fresh_ok Hok.out D b
  obtain⟨⟨c4,D4,R4⟩,hr4⟩:∃x,freshD D R b=x:=⟨_,rfl⟩
  have hr5:=Hr1.out b
  rw[hr4]at hr5 hS4 hfo ⊢
  simp only at hr5 hS4 hfo ⊢
  have Hr5:=box hr5
  have HS4:=box hS4
  have HT4:=box (SegStep.trans (SegStep.of_calm HC3.out) hT4)
  have Hb:=box (Nat.le_trans HC3.out.size hb)
  clear hr5 hS4 hT4 hb hfresh hr4 Hr1
  rcases err_cases c4 with rfl|⟨x1,x2,x3⟩
  ·obtain⟨k0,k1,k2⟩:=hfo.2 rfl
   have hok4:=HS4.out.row.ok
   have hst4:=RowOk.stop k0
   have hfin4:=hok4.fin k0
   have hfew4:=hok4.few
   obtain⟨g4,cap4,rfl,hcap4,hg4,hc4⟩:=last_cell HS4.out.row k0
   have d0:=HS4.out.row.cells.1
   have d3:=HS4.out.row.cells.2.2.2.1
   have d4:=HS4.out.row.cells.2.2.2.2.1
   have dlt:=heap_lt HS4.out.row.at_
   have q1:IntKind.i64.wrap ((R4.cnt:Int)-1)=((R4.cnt-1:Nat):Int):=by rw[IntWalk.i64_in _ (by omega)];omega
   have hlast4:=hok4.least k0
   have hname:=box (fun (W':World) (hc:Calm w4 W')=>name_any R4.lastp W' (HS4.out.row.calm hc) hlast4 (tab_calm HS4.out.tab' hc))
   have hwrite:=box (fun (W':World) (hc:Calm w4 W')=>Write_ok (nameB R4.head R4.lastp) s ((R4.fin-R4.lastp:Nat):Int) W' (HS4.out.disk.calm hc) (by omega) (by omega))
   have hgrow:=box (hok4.grow k0 (n:=s.size) (by omega))
   have hf4:R4.fin≤100004095:=by omega
   have hput:appendD D R s b=putD D4 R4 s:=by rw[Hr5.out];simp
   have Hput:=box hput
   have HD4:=box (fun (W':World) (hc:Calm w4 W')=>HS4.out.row.calm hc)
   obtain⟨m4,hm4⟩:∃m4,R4.cnt-1=m4:=⟨_,rfl⟩
   rw[hm4]at hc4 q1
   have hmn:m4<R4.cnt:=by omega
   obtain⟨lp,hlp⟩:∃lp,R4.lastp=lp:=⟨_,rfl⟩
   have Hlp:=box hlp
   rw[hlp]at hc4 hname hwrite hfin4
   have q2:IntKind.i64.wrap ((R4.fin:Int)-lp)=((R4.fin-lp:Nat):Int):=by rw[IntWalk.i64_in _ (by omega)];omega
   have hk0:=k0
   clear hfo k0 k1 k2 hok4 hst4 hfew4 hlast4 hput hm4 hlp
   go_upto_region 10 with (first|go_quiet (fail)|fail)
   have hCq:Calm w4 (w4.drewN nq):=(Calm.refl w4).drewN nq
   have kq:(w4.drewN nq).cell? ⟨r,0,none⟩=some (ptrTo p):=d0
   have klt:r<(w4.drewN nq).heap.size:=dlt
   clear d0 d3 d4 dlt hc4 q1
   generalize w4.drewN nq=wq at hCq kq klt ⊢
   go_region_held3 (fun w'=>w'.cell? ⟨r,0,none⟩=some (ptrTo p)) (first|go_keep|exact((HD4.out _ (by exact cm)).step (HS4.out.disk.calm (by exact cm)) hs6).cells.1|exact(HD4.out _ (by exact cm)).cells.1) (first
    | (go_at_call 90;refine(hname.out _ (by exact cm)).mono ?_;rintro e w5 ⟨rfl,hc5⟩)
    | (go_at_call 89;refine(hwrite.out _ (by exact cm)).mono ?_;rintro e w6 ⟨rfl,F6,hd6,hs6⟩))
   have HC5:=box (show Calm w4 w5 by exact cm)
   have hS6:=(HS4.out.drew HC5.out).disked hd6 hs6
   obtain⟨⟨c6,D6⟩,hr6⟩:∃x,D4.write (nameB R4.head lp) ((R4.fin-lp:Nat):Int) s=x:=⟨_,rfl⟩
   have hp6:putD D4 R4 s=if c6≠0 then ((0,c6),D6,R4) else (((R4.fin:Int),0),D6,R4.grow s.size):=by unfold putD;rw[Hlp.out,hr6]
   rw[hr6]at hS6 ⊢
   simp only at hS6 ⊢
   have Hp6:=box (Hput.out.trans hp6)
   have HS6:=box hS6.1
   have HT6:=box (HT4.out.trans (SegStep.trans (SegStep.of_calm HC5.out) hS6.2))
   clear hS6 hd6 hs6 hr6 hp6 hc5 hCq kq klt hname hwrite
   rcases err_cases c6 with rfl|⟨y1,y2,y3⟩
   ·have e4:=HS6.out.row.cells.2.2.2.2.1
    have g4':=free_of HS6.out.row.at_ 4
    have elt:=heap_lt HS6.out.row.at_
    have q3:IntKind.i64.wrap ((R4.fin:Int)+s.size)=((R4.fin+s.size:Nat):Int):=by rw[IntWalk.i64_in _ (by omega)];omega
    go_wp2_with fail
    have hS7:=HS6.out.set (R':=R4.grow s.size) 4 (.int .i64 ((R4.fin+s.size:Nat):Int)) rfl ⟨rfl,rfl⟩ hgrow.out
    go_ret2
    have hr:appendD D R s b=(((R4.fin:Int),0),D6,R4.grow s.size):=by rw[Hp6.out];simp
    exact⟨b,F6,_,Hb.out,by rw[hr];rfl,by rw[hr];exact hS7.1,HT6.out.trans hS7.2⟩
   ·go_wp2_with fail
    go_ret2
    have hr:appendD D R s b=((0,c6),D6,R4):=by rw[Hp6.out,if_pos y1.out]
    exact⟨b,F6,_,Hb.out,by rw[hr];rfl,by rw[hr];exact HS6.out,HT6.out⟩
  ·have hr:appendD D R s b=((0,c4),D4,R4):=by rw[Hr5.out,if_pos x1.out]
   have Hr:=box hr
   clear hr hfo
   go_wp2_with fail
   go_ret2
   exact⟨b,F4,_,Hb.out,by rw[Hr.out];rfl,by rw[Hr.out];exact HS4.out.mono (Nat.le_succ _),HT4.out⟩
 ·have t2:decide (D.cap-(D.size:Int)<s.size)=false:=decide_eq_false h3
  clear h3
  go_enter Tryz.func44,Tryz.ntmps44
  go_wp2_with fail
  refine HR.out.mono ?_
  rintro e w1 ⟨rfl,m,rfl⟩
  have hc1:=box ((Calm.refl w).drewN m)
  go_wp2_with fail
  refine(HDR.out _ hc1.out).mono ?_
  rintro e w2 ⟨rfl,hc2⟩
  have HC3:=box (hc1.out.trans hc2)
  clear hc2
  clear c0 hlt
  go_wp2_with fail
  refine(hfresh.out _ HC3.out).mono ?_
  rintro e w4 ⟨b,F4,v4,hb,rfl,hS4,hT4⟩
  have hfo:=fresh_ok Hok.out D b
  obtain⟨⟨c4,D4,R4⟩,hr4⟩:∃x,freshD D R b=x:=⟨_,rfl⟩
  have hr5:=Hr1.out b
  rw[hr4]at hr5 hS4 hfo ⊢
  simp only at hr5 hS4 hfo ⊢
  have Hr5:=box hr5
  have HS4:=box hS4
  have HT4:=box (SegStep.trans (SegStep.of_calm HC3.out) hT4)
  have Hb:=box (Nat.le_trans HC3.out.size hb)
  clear hr5 hS4 hT4 hb hfresh hr4 Hr1
  rcases err_cases c4 with rfl|⟨x1,x2,x3⟩
  ·obtain⟨k0,k1,k2⟩:=hfo.2 rfl
   have hok4:=HS4.out.row.ok
   have hst4:=RowOk.stop k0
   have hfin4:=hok4.fin k0
   have hfew4:=hok4.few
   obtain⟨g4,cap4,rfl,hcap4,hg4,hc4⟩:=last_cell HS4.out.row k0
   have d0:=HS4.out.row.cells.1
   have d3:=HS4.out.row.cells.2.2.2.1
   have d4:=HS4.out.row.cells.2.2.2.2.1
   have dlt:=heap_lt HS4.out.row.at_
   have q1:IntKind.i64.wrap ((R4.cnt:Int)-1)=((R4.cnt-1:Nat):Int):=by rw[IntWalk.i64_in _ (by omega)];omega
   have hlast4:=hok4.least k0
   have hname:=box (fun (W':World) (hc:Calm w4 W')=>name_any R4.lastp W' (HS4.out.row.calm hc) hlast4 (tab_calm HS4.out.tab' hc))
   have hwrite:=box (fun (W':World) (hc:Calm w4 W')=>Write_ok (nameB R4.head R4.lastp) s ((R4.fin-R4.lastp:Nat):Int) W' (HS4.out.disk.calm hc) (by omega) (by omega))
   have hgrow:=box (hok4.grow k0 (n:=s.size) (by omega))
   have hf4:R4.fin≤100004095:=by omega
   have hput:appendD D R s b=putD D4 R4 s:=by rw[Hr5.out];simp
   have Hput:=box hput
   have HD4:=box (fun (W':World) (hc:Calm w4 W')=>HS4.out.row.calm hc)
   obtain⟨m4,hm4⟩:∃m4,R4.cnt-1=m4:=⟨_,rfl⟩
   rw[hm4]at hc4 q1
   have hmn:m4<R4.cnt:=by omega
   obtain⟨lp,hlp⟩:∃lp,R4.lastp=lp:=⟨_,rfl⟩
   have Hlp:=box hlp
   rw[hlp]at hc4 hname hwrite hfin4
   have q2:IntKind.i64.wrap ((R4.fin:Int)-lp)=((R4.fin-lp:Nat):Int):=by rw[IntWalk.i64_in _ (by omega)];omega
   have hk0:=k0
   clear hfo k0 k1 k2 hok4 hst4 hfew4 hlast4 hput hm4 hlp
   go_upto_region 10 with (first|go_quiet (fail)|fail)
   have hCq:Calm w4 (w4.drewN nq):=(Calm.refl w4).drewN nq
   have kq:(w4.drewN nq).cell? ⟨r,0,none⟩=some (ptrTo p):=d0
   have klt:r<(w4.drewN nq).heap.size:=dlt
   clear d0 d3 d4 dlt hc4 q1
   generalize w4.drewN nq=wq at hCq kq klt ⊢
   go_region_held3 (fun w'=>w'.cell? ⟨r,0,none⟩=some (ptrTo p)) (first|go_keep|exact((HD4.out _ (by exact cm)).step (HS4.out.disk.calm (by exact cm)) hs6).cells.1|exact(HD4.out _ (by exact cm)).cells.1) (first
    | (go_at_call 90;refine(hname.out _ (by exact cm)).mono ?_;rintro e w5 ⟨rfl,hc5⟩)
    | (go_at_call 89;refine(hwrite.out _ (by exact cm)).mono ?_;rintro e w6 ⟨rfl,F6,hd6,hs6⟩))
   have HC5:=box (show Calm w4 w5 by exact cm)
   have hS6:=(HS4.out.drew HC5.out).disked hd6 hs6
   obtain⟨⟨c6,D6⟩,hr6⟩:∃x,D4.write (nameB R4.head lp) ((R4.fin-lp:Nat):Int) s=x:=⟨_,rfl⟩
   have hp6:putD D4 R4 s=if c6≠0 then ((0,c6),D6,R4) else (((R4.fin:Int),0),D6,R4.grow s.size):=by unfold putD;rw[Hlp.out,hr6]
   rw[hr6]at hS6 ⊢
   simp only at hS6 ⊢
   have Hp6:=box (Hput.out.trans hp6)
   have HS6:=box hS6.1
   have HT6:=box (HT4.out.trans (SegStep.trans (SegStep.of_calm HC5.out) hS6.2))
   clear hS6 hd6 hs6 hr6 hp6 hc5 hCq kq klt hname hwrite
   rcases err_cases c6 with rfl|⟨y1,y2,y3⟩
   ·have e4:=HS6.out.row.cells.2.2.2.2.1
    have g4':=free_of HS6.out.row.at_ 4
    have elt:=heap_lt HS6.out.row.at_
    have q3:IntKind.i64.wrap ((R4.fin:Int)+s.size)=((R4.fin+s.size:Nat):Int):=by rw[IntWalk.i64_in _ (by omega)];omega
    go_wp2_with fail
    have hS7:=HS6.out.set (R':=R4.grow s.size) 4 (.int .i64 ((R4.fin+s.size:Nat):Int)) rfl ⟨rfl,rfl⟩ hgrow.out
    go_ret2
    have hr:appendD D R s b=(((R4.fin:Int),0),D6,R4.grow s.size):=by rw[Hp6.out];simp
    exact⟨b,F6,_,Hb.out,by rw[hr];rfl,by rw[hr];exact hS7.1,HT6.out.trans hS7.2⟩
   ·go_wp2_with fail
    go_ret2
    have hr:appendD D R s b=((0,c6),D6,R4):=by rw[Hp6.out,if_pos y1.out]
    exact⟨b,F6,_,Hb.out,by rw[hr];rfl,by rw[hr];exact HS6.out,HT6.out⟩
  ·have hr:appendD D R s b=((0,c4),D4,R4):=by rw[Hr5.out,if_pos x1.out]
   have Hr:=box hr
   clear hr hfo
   go_wp2_with fail
   go_ret2
   exact⟨b,F4,_,Hb.out,by rw[Hr.out];rfl,by rw[Hr.out];exact HS4.out.mono (Nat.le_succ _),HT4.out⟩
end
section
variable {W w w':World} {r p n:Nat} {R R':RowS} {v v':Value} {D D':DiskS} {F F':Nat→Prop}
theorem left_pos {k:Int} {m:Int} (hm:1≤m) (h:¬(R.left k:Int)<m):(R.start:Int)≤k∧k<R.fin:=by
 unfold RowS.left at h
 split at h
 ·omega
 ·omega
set_option maxHeartbeats 8000000 in
theorem Read_any (k m:Int) (w:World) (h:SegAt W w r p n D R F v) :
  Calls Tryz.prog 71 #[ptrTo r,.int .i64 k,.int .i64 m] w fun e w'=>e=.returned (.tuple #[.string (readD D R k m).1,.int .i64 (readD D R k m).2])∧Calm w w':=by
 have H:=box h
 have HDD:=box (Down_any w h.disk.lies)
 have HB:=box (Begin_any w h.row)
 have HL:=box (Left_any k w h.row)
 have hle:=h.row.ok.le
 obtain⟨c0,c1,c2,c3,c4,c5⟩:=h.row.cells
 have hlt:=heap_lt h.row.at_
 clear h c1 c2 c3 c5
 by_cases hd:D.down=true
 ·have hr:readD D R k m=(⟨#[]⟩,8):=by unfold readD;rw[if_pos hd]
  rw[hr]
  rw[hd]at HDD
  clear hd hr
  go_enter Tryz.func71,Tryz.ntmps71
  go_wp2_with fail
  refine HDD.out.mono ?_
  rintro e w1 ⟨rfl,rfl⟩
  go_wp2_with fail
  go_ret2
  exact⟨rfl,Calm.refl _⟩
 have hdf:D.down=false:=by simpa using hd
 rw[hdf]at HDD
 have hr0:readD D R k m=if m=0∧(R.start:Int)≤k∧k≤R.fin then (⟨#[]⟩,0) else if m<1∨(R.left k:Int)<m then (⟨#[]⟩,2) else D.read (nameB R.head (k.toNat / R.size * R.size)) (k-(k.toNat / R.size * R.size:Nat)) m:=by
  unfold readD;rw[if_neg hd]
 clear hd hdf
 by_cases h1:m=0∧(R.start:Int)≤k∧k≤R.fin
 ·rw[if_pos h1]at hr0
  rw[hr0]
  obtain⟨rfl,h2,h3⟩:=h1
  have t1:decide ((R.start:Int)≤k)=true:=decide_eq_true h2
  have t2:decide (k≤(R.fin:Int))=true:=decide_eq_true h3
  clear hr0 h2 h3 hle
  go_enter Tryz.func71,Tryz.ntmps71
  go_wp2_with fail
  refine HDD.out.mono ?_
  rintro e w1 ⟨rfl,rfl⟩
  go_wp2_with fail
  refine HB.out.mono ?_
  rintro e w1 ⟨rfl,rfl⟩
  go_wp2_with fail
  go_ret2
  exact⟨rfl,Calm.refl _⟩
 rw[if_neg h1]at hr0
 by_cases h2:m<1
 ·rw[if_pos (.inl h2)]at hr0
  rw[hr0]
  have t3:decide (m<1)=true:=decide_eq_true h2
  by_cases hm0:m=0
  ·subst hm0
   by_cases h3:(R.start:Int)≤k
   ·have t1:decide ((R.start:Int)≤k)=true:=decide_eq_true h3
    have t2:decide (k≤(R.fin:Int))=false:=decide_eq_false (fun h4=>h1 ⟨rfl,h3,h4⟩)
    clear hr0 h1 h2 h3 hle
    go_enter Tryz.func71,Tryz.ntmps71
    go_wp2_with fail
    refine HDD.out.mono ?_
    rintro e w1 ⟨rfl,rfl⟩
    go_wp2_with fail
    refine HB.out.mono ?_
    rintro e w1 ⟨rfl,rfl⟩
    go_wp2_with fail
    go_ret2
    exact⟨rfl,Calm.refl _⟩
   ·have t1:decide ((R.start:Int)≤k)=false:=decide_eq_false h3
    clear hr0 h1 h2 h3 hle
    go_enter Tryz.func71,Tryz.ntmps71
    go_wp2_with fail
    refine HDD.out.mono ?_
    rintro e w1 ⟨rfl,rfl⟩
    go_wp2_with fail
    refine HB.out.mono ?_
    rintro e w1 ⟨rfl,rfl⟩
    go_wp2_with fail
    go_ret2
    exact⟨rfl,Calm.refl _⟩
  ·have t4:(m==0)=false:=beq_eq_false_iff_ne.2 hm0
   clear hr0 h1 h2 hm0 hle
   go_enter Tryz.func71,Tryz.ntmps71
   go_wp2_with fail
   refine HDD.out.mono ?_
   rintro e w1 ⟨rfl,rfl⟩
   go_wp2_with fail
   go_ret2
   exact⟨rfl,Calm.refl _⟩
 have t3:decide (m<1)=false:=decide_eq_false h2
 have t4:(m==0)=false:=beq_eq_false_iff_ne.2 (by omega)
 by_cases h3:(R.left k:Int)<m
 ·rw[if_pos (.inr h3)]at hr0
  rw[hr0]
  have t5:decide ((R.left k:Int)<m)=true:=decide_eq_true h3
  clear hr0 h1 h2 h3 hle
  go_enter Tryz.func71,Tryz.ntmps71
  go_wp2_with fail
  refine HDD.out.mono ?_
  rintro e w1 ⟨rfl,rfl⟩
  go_wp2_with fail
  refine HL.out.mono ?_
  rintro e w1 ⟨rfl,j,rfl⟩
  go_wp2_with fail
  go_ret2
  exact⟨rfl,(Calm.refl w).drewN j⟩
 rw[if_neg (by intro h;exact h.elim h2 h3)]at hr0
 have t5:decide ((R.left k:Int)<m)=false:=decide_eq_false h3
 obtain⟨h4,h5⟩:=left_pos (by omega) h3
 obtain⟨i,rfl⟩:∃i:Nat,k=i:=⟨k.toNat,by omega⟩
 rw[Int.toNat_natCast]at hr0
 have hm:=Nat.div_mul_le_self i R.size
 have HO:=box (fun (W':World) (hc:Calm w W')=>of_any i W' (H.out.row.calm hc) (by omega))
 obtain⟨y,hy⟩:∃y,i / R.size * R.size=y:=⟨_,rfl⟩
 rw[hy]at hr0 hm HO
 have hplace:y≤99999999:=by
  have hok:=H.out.row.ok
  by_cases h0:0<R.cnt
  ·have h6:=hok.least h0
   have h7:=RowOk.stop (R:=R) h0
   have h8:=(hok.fin h0).2
   have h9:=hok.mod
   by_cases h10:y≤R.lastp
   ·omega
   ·exfalso
    have hs:=hok.size
    have e1:R.lastp%R.size=0:=by unfold RowS.lastp;rw[Nat.add_mul_mod_self_right];exact h9
    have e2:y%R.size=0:=by rw[←hy];exact Nat.mul_mod_left _ _
    obtain⟨a,ha⟩:=Nat.dvd_of_mod_eq_zero e1
    obtain⟨b,hb⟩:=Nat.dvd_of_mod_eq_zero e2
    have hab:a<b:=by
     rcases Nat.lt_or_ge a b with h|h
     ·exact h
     ·have:=Nat.mul_le_mul_left R.size h;omega
    have:=Nat.mul_le_mul_left R.size (show a+1≤b from hab)
    rw[Nat.mul_add,Nat.mul_one]at this
    omega
  ·have:=hok.none (by omega);omega
 have hname:=box (fun (W':World) (hc:Calm w W')=>name_any y W' (H.out.row.calm hc) hplace (tab_calm H.out.tab' hc))
 have hread:=box (fun (W':World) (hc:Calm w W')=>Read_ok (nameB R.head y) ((i:Int)-y) m W' (H.out.disk.calm hc))
 have hcells:=box (fun (W':World) (hc:Calm w W')=>(H.out.row.calm hc).cells.1)
 rw[hr0]
 obtain⟨⟨o1,o2⟩,ho⟩:∃x,D.read (nameB R.head y) ((i:Int)-y) m=x:=⟨_,rfl⟩
 rw[ho]at hread ⊢
 have q1:IntKind.i64.wrap ((i:Int)-y)=(i:Int)-y:=IntWalk.i64_in _ (by omega)
 clear hr0 h1 h2 h3 h4 h5 hy hplace hm ho hle
 go_enter Tryz.func71,Tryz.ntmps71
 go_wp2_with fail
 refine HDD.out.mono ?_
 rintro e w1 ⟨rfl,rfl⟩
 go_wp2_with fail
 refine HL.out.mono ?_
 rintro e w1 ⟨rfl,j,rfl⟩
 go_wp2_with fail
 refine(HO.out _ ((Calm.refl w).drewN j)).mono ?_
 rintro e w2 ⟨rfl,j2,rfl⟩
 have hCq:Calm w ((w.drewN j).drewN j2):=((Calm.refl w).drewN j).drewN j2
 have kq:((w.drewN j).drewN j2).cell? ⟨r,0,none⟩=some (ptrTo p):=c0
 have klt:r<((w.drewN j).drewN j2).heap.size:=hlt
 go_upto_region 10 with fail
 simp only[World.drewN_drewN]at hCq kq klt
 clear c0 c4 hlt
 generalize w.drewN (j+j2)=wq at hCq kq klt ⊢
 go_region_held3 (fun w'=>w'.cell? ⟨r,0,none⟩=some (ptrTo p)) (first|go_keep|exact(hcells.out _ (by exact cm))) (first
  | (go_at_call 90;refine(hname.out _ (by exact cm)).mono ?_;rintro e w5 ⟨rfl,hc5⟩)
  | (go_at_call 117;refine(hread.out _ (by exact cm)).mono ?_;rintro e w6 ⟨rfl,hc6⟩))
 go_wp2_with fail
 have HC6:=box (show Calm w w6 by exact cm)
 go_ret2
 exact⟨rfl,HC6.out⟩
end
theorem infoStr:(Tryz.prog.info? 9).map (fun i=>(i.zero,i.size,i.bytes))=some (some (.string ⟨#[]⟩),1,16):=by kernel_rfl
theorem row_cap {w:World} {base:Nat} {v:Value} {n:Nat} {xs:List Value} {e:TypeId} (h:w.ownsRow base e 1 v n xs):∃a c,v=.slice a n c∧n≤c:=by
 rcases h.2 with ⟨rfl,hn⟩|⟨g,cap,cur,rfl,hb,hg,hnc,_⟩
 ·exact⟨none,0,by rw[hn],by omega⟩
 ·exact⟨_,cap,rfl,hnc⟩
theorem strs_own {w:World} {base:Nat} {v:Value} {l:List ByteArray} (h:w.ownsRow base 9 1 v l.length (l.map Value.string)):StrsAt w v l:=by
 rcases h.2 with ⟨rfl,hn⟩|⟨g,cap,cur,rfl,hb,hg,hnc,hcm,hcs,htake⟩
 ·have:l=[]:=List.eq_nil_of_length_eq_zero hn
  subst this
  exact .inl ⟨rfl,none,0,rfl⟩
 ·refine .inr ⟨g,0,cap,rfl,fun k hk=>?_⟩
  have:=h.cells (g:=g) rfl k (.string l[k]) (by simp [hk])
  rw[add_lit]at this
  rw[Nat.zero_add,this,List.getD_eq_getElem?_getD,List.getElem?_eq_getElem hk]
  rfl
theorem append_name (w:World) (base:Nat) (v:Value) (l:List ByteArray) (x:ByteArray) (g0:Nat) (h:w.ownsRow base 9 1 v l.length (l.map Value.string)) (hbase:base≤w.heap.size) (hb:w.heap[g0]? = some (.cells #[.string x] 9 (0,0))) (hl:l.length≤100000000) (ty:TypeId) :
  ∃v' w',(Builtin.append_ #[61,61] ty #[v,.slice (some ⟨g0,0,none⟩) 1 1]).run Tryz.prog w=.ok v' w'∧w'.ownsRow base 9 1 v' (l++[x]).length ((l++[x]).map Value.string)∧Keeps (base≤·) w w':=by
 obtain⟨i0,hi,hz0,hz1,hz2⟩:=info_parts infoStr
 obtain⟨v',w',h1,h2,h3,_⟩:=run_append_own (P:=Tryz.prog) w base 61 ty 9 i0 _ 1 16 Tryz.underlying61 hi hz0 hz1 hz2 (by kernel_rfl) (by decide) v l.length _ h ⟨g0,0,none⟩ 1 1 [.string x] rfl (fun j u hj=>by
   rw[add_lit,cell_of hb]
   match j,hj with
   | 0,hj=>exact hj
   | k+1,hj=>simp at hj) (fun u hu=>by
   rcases List.mem_cons.1 hu with rfl|hu
   ·rfl
   cases hu) (by simp only[maxLen];omega) (by omega) hbase
 refine⟨v',w',h1,?_,(Keeps.refl (base≤·) w).grown h3 (fun k hk=>.inl (h.lt k hk).1)⟩
 rw[List.length_append,List.map_append]
 exact h2
section
variable {W w w':World} {r p n:Nat} {R R':RowS} {v v':Value} {D D':DiskS} {F F':Nat→Prop}
theorem own_apart {l:List ByteArray} {B:Nat} {nv:Value} (h:w'.ownsRow B 9 1 nv l.length (l.map Value.string)) (hF:∀b,F b→b<B):Apart nv F:=fun a n c e hn hf=>by
 subst e
 rcases h.2 with ⟨e,hn⟩|⟨g,cap,cur,e,hb,_⟩
 ·cases e
 ·cases e
  have h1:g<B:=hF _ hf
  have h2:B≤g:=hb
  omega
def dirtyN (R:RowS) (k:Nat):List ByteArray:=((R.places.take k).filter fun p=>decide (R.synced<p+R.size) && decide (R.synced<R.fin)).map (nameB R.head)
theorem dirty_snoc (R:RowS) (k:Nat) (hk:k<R.cnt):dirtyN R (k+1)=dirtyN R k++(if (decide (R.synced<R.start+k * R.size+R.size) && decide (R.synced<R.fin))=true then [nameB R.head (R.start+k * R.size)] else []):=by
 unfold dirtyN RowS.places
 rw[plc_take _ _ _ _ hk,plc_take _ _ _ _ (Nat.le_of_lt hk),plc_snoc,List.filter_append,List.map_append]
 congr 1
 rw[List.filter_cons]
 split<;>rename_i h<;>simp [h]
theorem dirty_all (R:RowS):dirtyN R R.cnt=R.dirty.map (nameB R.head):=by
 unfold dirtyN RowS.dirty
 rw[←R.length,List.take_length]
theorem dirty_len (R:RowS) (k:Nat) (hk:k≤R.cnt):(dirtyN R k).length≤k:=by
 unfold dirtyN
 rw[List.length_map]
 refine Nat.le_trans (List.length_filter_le _ _) ?_
 rw[List.length_take];omega
def SyncDone (W:World) (r p n:Nat) (D:DiskS) (R:RowS) (F:Nat→Prop) (v:Value) (w:World) (e:Ending) (w':World):Prop :=
 ∃F',e=.returned (.int .i64 (syncD D R).1)∧SegAt W w' r p n (syncD D R).2.1 (syncD D R).2.2 F' v∧SegStep w r F v w' F' v
set_option maxHeartbeats 8000000 in
theorem Sync_row (w:World) (h:SegAt W w r p n D R F v) (hn:n≤1000000) :
  Calls Tryz.prog 59 #[ptrTo r] w (SyncDone W r p n D R F v w):=by
 have H:=box h
 have HDD:=box (Down_any w h.disk.lies)
 have hle:=h.row.ok.le
 have hfew:=h.row.ok.few
 have hz:=h.row.ok.size
 have hFw:=box h.disk.foot_lt
 obtain⟨c0,c1,c2,c3,c4,c5⟩:=h.row.cells
 have hlt:=heap_lt h.row.at_
 obtain⟨a,cap,rfl,hcap,hmx,hel⟩:=h.row.uni
 have Hel:=box hel
 clear h hmx hel
 by_cases hd:D.down=true
 ·have hr:syncD D R=(8,D,R):=by unfold syncD;rw[if_pos hd]
  have Hr:=box hr
  rw[hd]at HDD
  clear hd hr
  go_enter Tryz.func59,Tryz.ntmps59
  go_wp2_with fail
  refine HDD.out.mono ?_
  rintro e w1 ⟨rfl,rfl⟩
  go_wp2_with fail
  go_ret
  exact⟨F,by rw[Hr.out];rfl,by rw[Hr.out];exact H.out,SegStep.refl⟩
 have hdf:D.down=false:=by simpa using hd
 rw[hdf]at HDD
 have hr0:syncD D R=if R.dirty=[] then (0,D,R) else if (D.sync (R.dirty.map (nameB R.head))).1≠0 then ((D.sync (R.dirty.map (nameB R.head))).1,(D.sync (R.dirty.map (nameB R.head))).2,R) else (0,(D.sync (R.dirty.map (nameB R.head))).2,R.clean):=by
  unfold syncD;rw[if_neg hd]
 have Hr0:=box hr0
 have HName:=box (fun (k:Nat) (hk:k<R.cnt) (W':World) (hc:Calm w W')=>name_any (R.start+k * R.size) W' (H.out.row.calm hc) (H.out.row.ok.place hk).2 (tab_calm H.out.tab' hc))
 have HPl:=box (fun (k:Nat) (hk:k<R.cnt)=>(H.out.row.ok.place hk).2)
 clear hd hdf hr0
 obtain⟨sy,hsy⟩:∃sy,R.synced=sy:=⟨_,rfl⟩
 have Hsy:=box hsy
 rw[hsy]at c5 hle
 clear hsy
 go_enter Tryz.func59,Tryz.ntmps59
 go_wp2_with fail
 refine HDD.out.mono ?_
 rintro e w1 ⟨rfl,rfl⟩
 go_wp2_with fail
 go_loopw [3,21] (fun nv iv wr=>∃k:Nat,k≤R.cnt∧iv=.int .i64 k∧Calm w wr∧wr.ownsRow w.heap.size 9 1 nv (dirtyN R k).length ((dirtyN R k).map Value.string)) (fun _ iv _=>R.cnt-(intOf iv).toNat)
 case atStart=>exact⟨0,Nat.zero_le _,rfl,Calm.refl _,World.ownsRow_nil _ _ _ _⟩
 case round =>
  obtain⟨k,hk,rfl,hC,hrow⟩:=hrel
  have HC:=box hC
  have Hrow:=box hrow
  obtain⟨na,nc,rfl,hnc⟩:=row_cap hrow
  clear hC hrow
  obtain⟨wo,hwo⟩:∃wo:World,wo=wr:=⟨_,rfl⟩
  subst hwo
  have hat:=heap_calm HC.out H.out.row.at_
  have d0:=(H.out.row.calm HC.out).cells.1
  have d2:=(H.out.row.calm HC.out).cells.2.2.1
  have d4:=(H.out.row.calm HC.out).cells.2.2.2.2.1
  have d5:=(H.out.row.calm HC.out).cells.2.2.2.2.2
  rw[Hsy.out]at d5
  have dlt:=heap_lt hat
  clear hat c0 c1 c2 c3 c4 c5 hlt
  by_cases hlk:k<R.cnt
  ·obtain⟨b,rfl,hb,hc⟩:=Hel.out k hlk
   have dc:=(HC.out.cell (p:=⟨b,k,none⟩) hb).trans hc
   have hbl:=Nat.lt_of_lt_of_le hb HC.out.size
   have hpl:=HPl.out k hlk
   have hname:=box (fun (W':World) (hc:Calm w W')=>HName.out k hlk W' hc)
   have hsn:=box (dirty_snoc R k hlk)
   have hdl:=dirty_len R k hk
   obtain⟨q,hq⟩:∃q,R.start+k * R.size=q:=⟨_,rfl⟩
   rw[hq]at dc hpl hname hsn
   obtain⟨qs,hqs⟩:∃qs,q+R.size=qs:=⟨_,rfl⟩
   rw[hqs,Hsy.out]at hsn
   have q1:IntKind.i64.wrap ((q:Int)+R.size)=(qs:Int):=by rw[IntWalk.i64_in _ (by omega)];omega
   clear hc hb hq hqs
   by_cases h1:sy<qs
   ·have t1:decide (sy<qs)=true:=decide_eq_true h1
    by_cases h2:sy<R.fin
    ·have t2:decide (sy<R.fin)=true:=decide_eq_true h2
     have hsn2:=box (show dirtyN R (k+1)=dirtyN R k++[nameB R.head q] by rw[hsn.out,t1,t2];rfl)
     clear h1 h2 hsn
     go_upto_region 10 with (first|go_quiet (fail)|fail)
     have hCq:Calm wo (wo.drewN nq):=(Calm.refl wo).drewN nq
     clear d0 d2 d4 d5 dc dlt hbl
     generalize wo.drewN nq=wq at hCq ⊢
     have HCq:=box (HC.out.trans hCq)
     have Hrq:=box (own_calm Hrow.out hCq)
     clear hCq
     go_wp2_with fail
     refine(hname.out _ HCq.out).mono ?_
     rintro e w5 ⟨rfl,hc5⟩
     have HC5:=box (HCq.out.trans hc5)
     obtain⟨v2,w6,happ,hrow6,hk6⟩:=append_name (w5.alloc (.cells #[.string (nameB R.head q)] 9)) w.heap.size (.slice na (dirtyN R k).length nc) (dirtyN R k) (nameB R.head q) w5.heap.size ((own_calm Hrq.out hc5).alloc _) (by have:=HC5.out.size;rw[World.size_alloc];omega) (heap_new _ _) (by omega) 61
     obtain⟨a2,c2',hv2,hc2'⟩:=row_cap hrow6
     rw[List.length_append,List.length_singleton]at hv2
     subst hv2
     have Happ:=box happ
     have Hrow6:=box (show w6.ownsRow w.heap.size 9 1 (.slice a2 ((dirtyN R k).length+1) c2') (dirtyN R (k+1)).length ((dirtyN R (k+1)).map Value.string) from by rw[hsn2.out];exact hrow6)
     have HC6:=box (Below.trans (HC5.out.trans ((Calm.refl w5).alloc (.cells #[.string (nameB R.head q)] 9))) (hk6.below (B:=w.heap.size) (by have:=HC5.out.size;rw[World.size_alloc];omega) (fun b h=>h)))
     clear happ hrow6 hk6 hc5
     go_wp2_with (first|(at_builtin;refine Lib.wpList_append_run _ rfl _ _ _ _ rfl _ _ rfl rfl _ _ Happ.out ?_)|fail)
     go_roundw
     case rel=>exact⟨k+1,by omega,by go_num,HC6.out,Hrow6.out⟩
     case measure=>simp [intOf];omega
    ·have t2:decide (sy<R.fin)=false:=decide_eq_false h2
     have hsn2:=box (show dirtyN R (k+1)=dirtyN R k by rw[hsn.out,t1,t2];simp)
     clear h1 h2 hsn
     go_wp2_with (first|go_quiet (fail)|fail)
     go_roundw
     case rel=>exact⟨k+1,by omega,by go_num,HC.out.drewN _,by rw[hsn2.out];exact own_calm Hrow.out ((Calm.refl wo).drewN _)⟩
     case measure=>simp [intOf];omega
   ·have t1:decide (sy<qs)=false:=decide_eq_false h1
    have hsn2:=box (show dirtyN R (k+1)=dirtyN R k by rw[hsn.out,t1];simp)
    clear h1 hsn
    go_wp2_with (first|go_quiet (fail)|fail)
    go_roundw
    case rel=>exact⟨k+1,by omega,by go_num,HC.out.drewN _,by rw[hsn2.out];exact own_calm Hrow.out ((Calm.refl wo).drewN _)⟩
    case measure=>simp [intOf];omega
  ·obtain rfl:k=R.cnt:=by omega
   have hdl:=dirty_len R R.cnt hk
   by_cases he:dirtyN R R.cnt=[]
   ·have hr:syncD D R=(0,D,R):=by
     rw[Hr0.out,if_pos]
     rw[dirty_all]at he
     exact List.map_eq_nil_iff.1 he
    have Hr:=box hr
    have h0:(dirtyN R R.cnt).length=0:=by rw[he];rfl
    obtain⟨m,hm⟩:∃m,(dirtyN R R.cnt).length=m:=⟨_,rfl⟩
    rw[hm]at h0 ⊢
    subst h0
    clear hr he hm hdl
    go_wp2_with fail
    go_ret
    exact⟨F,by rw[Hr.out];rfl,by rw[Hr.out];exact H.out.drew HC.out,SegStep.of_calm HC.out⟩
   ·have hne:((dirtyN R R.cnt).length:Int)≠0:=by
     intro h0
     exact he (List.eq_nil_of_length_eq_zero (by omega))
    have hne2:(((dirtyN R R.cnt).length:Int)==0)=false:=beq_eq_false_iff_ne.2 hne
    have hsync:=box (Sync_ok (.slice na (dirtyN R R.cnt).length nc) (dirtyN R R.cnt) wo (H.out.disk.calm HC.out) hn (strs_own Hrow.out) (own_apart Hrow.out hFw.out) (by omega))
    have hr1:syncD D R=if (D.sync (dirtyN R R.cnt)).1≠0 then ((D.sync (dirtyN R R.cnt)).1,(D.sync (dirtyN R R.cnt)).2,R) else (0,(D.sync (dirtyN R R.cnt)).2,R.clean):=by
     rw[Hr0.out,if_neg (fun h=>he (by rw[dirty_all,h];rfl)),dirty_all]
    have Hr1:=box hr1
    obtain⟨m,hm⟩:∃m,(dirtyN R R.cnt).length=m:=⟨_,rfl⟩
    rw[hm]at hne2 hsync ⊢
    clear hr1 he hne hm hdl Hrow
    go_wp2_with fail
    refine hsync.out.mono ?_
    intro e w4 h4
    obtain⟨⟨c4,D4⟩,hr4⟩:∃x,D.sync (dirtyN R R.cnt)=x:=⟨_,rfl⟩
    obtain⟨rfl,F4,hd4,hs4⟩:=h4.at hr4
    have hr1:=Hr1.out
    rw[hr4]at hr1
    have Hr1:=box hr1
    have S4:=(H.out.drew HC.out).disked hd4 hs4
    have HS4:=box S4.1
    have HT4:=box (SegStep.trans (SegStep.of_calm HC.out) S4.2)
    clear hr1 S4 hd4 hs4 h4 hr4 hsync
    rcases err_cases c4 with rfl|⟨x1,x2,x3⟩
    ·have e4:=HS4.out.row.cells.2.2.2.2.1
     have e5:=HS4.out.row.cells.2.2.2.2.2
     have g5:=free_of HS4.out.row.at_ 5
     have elt:=heap_lt HS4.out.row.at_
     clear d0 d2 d4 d5 dlt
     go_wp2_with fail
     have hS5:=HS4.out.set (R':=R.clean) 5 (.int .i64 (R.fin:Int)) rfl ⟨rfl,rfl⟩ HS4.out.row.ok.clean
     go_ret
     have hr:syncD D R=(0,D4,R.clean):=by rw[Hr1.out];simp
     exact⟨F4,by rw[hr];rfl,by rw[hr];exact hS5.1,HT4.out.trans hS5.2⟩
    ·go_wp2_with fail
     go_ret
     have hr:syncD D R=(c4,D4,R):=by rw[Hr1.out,if_pos x1.out]
     exact⟨F4,by rw[hr];rfl,by rw[hr];exact HS4.out,HT4.out⟩
end
end Go.Proofs.YtiahjipoofeliaaGreatDoor.sg
