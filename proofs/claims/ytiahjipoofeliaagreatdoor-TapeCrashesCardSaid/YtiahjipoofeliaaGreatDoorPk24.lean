/- Lemmas for this claim. -/
import Derived.Deep.RegionWith
import Derived.Test.YtiahjipoofeliaaGreatDoorPk23
set_option maxRecDepth 100000
namespace Go.Proofs.YtiahjipoofeliaaGreatDoor.sg
open Go.ChangeShapes Go.WideShapes Go.ChangeAt Go.RowKit
open dk
section
variable {W w w':World} {r p n:Nat} {R R' R1:RowS} {v v' v1:Value} {D D':DiskS} {F F':Nat→Prop}
def DropDone (W:World) (r p n:Nat) (D:DiskS) (R:RowS) (F:Nat→Prop) (v:Value) (w:World) (e:Ending) (w':World):Prop :=
 ∃F' v',e=.returned (.tuple #[.int .i64 (dropD D R).1.1,.int .i64 (dropD D R).1.2])∧SegAt W w' r p n (dropD D R).2.1 (dropD D R).2.2 F' v'∧SegStep w r F v w' F' v'
theorem dropped {D:DiskS} (h:SegAt W w r p n D R F v) (c:Int) (he:dropD D R=((0,c),D,R)):DropDone W r p n D R F v w (.returned (.tuple #[.int .i64 0,.int .i64 c])) w :=
 ⟨F,v,by rw[he],by rw[he];exact h,SegStep.refl⟩
end
theorem findIdx_snoc {α:Type} (q:α→Bool) (L:List α) (k:Nat) (hk:k<L.length) (h:(L.take k).findIdx? q=none) :
  (q L[k]=true→L.findIdx? q=some k)∧(q L[k]=false→(L.take (k+1)).findIdx? q=none):=by
 rw[List.findIdx?_eq_none_iff]at h
 constructor
 ·intro he
  rw[List.findIdx?_eq_some_iff_getElem]
  refine⟨hk,he,fun j hj=>?_⟩
  have:=h L[j] (List.mem_take_iff_getElem.2 ⟨j,by omega,rfl⟩)
  simpa using this
 ·intro he
  rw[List.findIdx?_eq_none_iff]
  intro x hx
  rw[List.take_succ_eq_append_getElem hk]at hx
  rcases List.mem_append.1 hx with hx|hx
  ·exact h x hx
  ·rw[List.mem_singleton]at hx;subst hx;exact he
def cutQ (R:RowS) (k:Int) (p:Nat):Bool:=decide (k≤(p:Int)) && decide (R.start<p)
def idxP (R:RowS) (k:Int):Int:=match R.places.findIdx? (cutQ R k) with|some i=>(i:Int)|none=>-1
theorem keepN_eq (R:RowS) (k:Int):R.keepN k=match R.places.findIdx? (cutQ R k) with|some i=>i|none=>R.cnt:=rfl
theorem keepN_cases (R:RowS) (k:Int):(idxP R k = -1∧R.keepN k=R.cnt)∨(idxP R k=(R.keepN k:Int)∧R.keepN k<R.cnt∧1≤R.keepN k∧k≤((R.start+R.keepN k * R.size:Nat):Int)):=by
 unfold idxP
 rw[keepN_eq]
 cases h:R.places.findIdx? (cutQ R k) with
 | none=>exact .inl ⟨rfl,rfl⟩
 | some i =>
  rw[List.findIdx?_eq_some_iff_getElem]at h
  obtain⟨hi,hq,_⟩:=h
  rw[R.length]at hi
  have hg:R.places[i]'(by rw[R.length];exact hi)=R.start+i * R.size:=plc_get _ _ _ _
  rw[hg]at hq
  unfold cutQ at hq
  rw[Bool.and_eq_true,decide_eq_true_eq,decide_eq_true_eq]at hq
  refine .inr ⟨rfl,hi,?_,hq.1⟩
  rcases Nat.eq_zero_or_pos i with rfl|h0
  ·simp at hq
  ·exact h0
section
variable {W w w':World} {r p n:Nat} {R R' R1:RowS} {v v' v1:Value} {D D':DiskS} {F F':Nat→Prop}
theorem Cut1_any (x:Nat) (ba br:Nat) (k:Int) (w:World) (h:RowAt w r p R v) (ha:w.cell? ⟨ba,0,none⟩=some (.int .i64 k)) (hr:w.cell? ⟨br,0,none⟩=some (ptrTo r)) :
  Calls Tryz.prog 102 #[.int .i64 (x:Int),ptrTo ba,ptrTo br] w fun e w'=>e=.returned (.bool (cutQ R k x))∧w=w':=by
 have HB:=box (Begin_any w h)
 unfold cutQ
 clear h
 by_cases h1:k≤(x:Int)
 ·have t1:decide (k≤(x:Int))=true:=decide_eq_true h1
  rw[t1]
  clear h1
  go_enter Tryz.func102,Tryz.ntmps102
  go_wp2_with fail
  refine HB.out.mono ?_
  rintro e w1 ⟨rfl,rfl⟩
  go_wp2_with fail
  go_ret
  exact⟨ret_bool (by simp),rfl⟩
 ·have t1:decide (k≤(x:Int))=false:=decide_eq_false h1
  rw[t1]
  clear h1
  go_enter Tryz.func102,Tryz.ntmps102
  go_wp2_with fail
  go_ret
  exact⟨rfl,rfl⟩
set_option maxHeartbeats 2000000 in
theorem IndexFunc_any (ba br:Nat) (k:Int) (w:World) (h:RowAt w r p R v) (ha:w.cell? ⟨ba,0,none⟩=some (.int .i64 k)) (hr:w.cell? ⟨br,0,none⟩=some (ptrTo r)) :
  Calls Tryz.prog 101 #[v,.func (.func 102) #[] #[ptrTo ba,ptrTo br]] w fun e w'=>e=.returned (.int .i64 (idxP R k))∧w=w':=by
 obtain⟨a,cap,rfl,hcap,hmx,hel⟩:=h.uni
 have Hel:=box hel
 have hen:=Go.Proofs.enters_of Tryz.func102 (by kernel_rfl) rfl
 have HC:=box (fun x=>Cut1_any x ba br k w h ha hr)
 have hfew:=h.ok.few
 clear h ha hr hel hmx
 go_enter Tryz.func101,Tryz.ntmps101
 go_wp2_with fail
 go_loopw [8] (fun i wr=>∃j:Nat,j≤R.cnt∧i=.int .i64 j∧(R.places.take j).findIdx? (cutQ R k)=none∧w=wr) (fun i _=>R.cnt-(intOf i).toNat)
 case atStart=>exact⟨0,Nat.zero_le _,rfl,rfl,rfl⟩
 case round =>
  obtain⟨j,hj,rfl,hno,rfl⟩:=hrel
  have Hno:=box hno
  clear hno
  by_cases hlt:j<R.cnt
  ·obtain⟨b,rfl,hb,hc⟩:=Hel.out j hlt
   have hs:=box (findIdx_snoc (cutQ R k) R.places j (by rw[R.length];exact hlt) Hno.out)
   have hg:R.places[j]'(by rw[R.length];exact hlt)=R.start+j * R.size:=plc_get _ _ _ _
   rw[hg]at hs
   obtain⟨q,hq⟩:∃q,R.start+j * R.size=q:=⟨_,rfl⟩
   rw[hq]at hs hc
   clear hq hg
   cases hv:cutQ R k q
   ·have hnext:=box (hs.out.2 hv)
    have hcall:=box (HC.out q)
    rw[hv]at hcall
    clear hv hs
    go_wp2_with fail
    refine hcall.out.mono ?_
    rintro e w1 ⟨rfl,rfl⟩
    go_wp2_with fail
    go_roundw
    case rel=>exact⟨j+1,by omega,by go_num,hnext.out,by first|rfl|trivial⟩
    case measure=>simp [intOf];omega
   ·have hres:=box (show idxP R k=j by unfold idxP;rw[hs.out.1 hv])
    have hcall:=box (HC.out q)
    rw[hv]at hcall
    clear hv hs
    go_wp2_with fail
    refine hcall.out.mono ?_
    rintro e w1 ⟨rfl,rfl⟩
    go_wp2_with fail
    go_ret
    exact⟨ret_int (by rw[hres.out]),rfl⟩
  ·obtain rfl:j=R.cnt:=by omega
   have hres:=box (show idxP R k = -1 by
    have h1:=Hno.out
    rw[←R.length,List.take_length]at h1
    unfold idxP;rw[h1])
   go_wp2_with fail
   go_ret
   exact⟨ret_int (by rw[hres.out]),rfl⟩
theorem SegStep.same (s:SegStep w r F v w' F' v') {b:Nat} {o:Obj} (hb:w.heap[b]? = some o) (hF:¬F b) (hr:b≠r) (hv:v.ownBlock≠some b):w'.heap[b]? = some o :=
 (s.keeps.block b (heap_lt hb) (fun h=>h.elim hF (fun h=>h.elim hr hv))).trans hb
end
section
variable {W w w':World} {r p n:Nat} {R R' R1:RowS} {v v' v1:Value} {D D' D1:DiskS} {F F' F1:Nat→Prop}
theorem SegAt.turned {wf:World} (h:SegAt W w r p n D R F v) (hk:Keeps (rfoot r v) w wf) (hat:wf.heap[r]? = some (.cells (rowCells p R1 v1) 128 (0,0))) (hrow:wf.ownsRow 0 3 1 v1 R1.cnt (intN R1.places)) (hg:∀g,v1.ownBlock=some g→v.ownBlock=some g∨w.heap.size≤g) (ok:RowOk R1) :
  SegAt W wf r p n D R1 F v1∧SegStep w r F v wf F v1:=by
 have hst:SegStep w r F v wf F v1:=⟨hk.mono (fun _ _ hb=>.inr hb),fun _ hb=>.inl hb,hg⟩
 refine⟨h.next (h.disk.keep hk (fun b hb hx=>?_)) ⟨hat,hrow,ok⟩ hst,hst⟩
 rcases hx with rfl|hx
 ·exact row_apart h.disk h.row.at_ hb
 ·exact places_apart h.disk h.row hx hb
theorem own_take {b n m cap:Nat} {xs:List Value} {e:TypeId} (h:w.ownsRow 0 e 1 (.slice (some ⟨b,0,none⟩) n cap) n xs) (hm:m≤n):w.ownsRow 0 e 1 (.slice (some ⟨b,0,none⟩) m cap) m (xs.take m):=by
 have h1:=h.1
 rcases h.2 with ⟨e,_⟩|⟨g,cap',cur,e,hb,hg,hnc,hcm,hcs,htake⟩
 ·cases e
 ·cases e
  refine⟨by rw[List.length_take];omega,.inr ⟨b,cap,cur,rfl,Nat.zero_le _,hg,by omega,hcm,hcs,?_⟩⟩
  rw[←htake,List.take_take]
  congr 1
  omega
theorem own_ints0 {b m cap:Nat} {R1:RowS} (h:w.ownsRow 0 3 1 (.slice (some ⟨b,0,none⟩) m cap) m (intN (R1.firsts m).places)) (_h0:0<m) :
  ∃g',(Value.slice (some ⟨b,0,none⟩) m cap)=.slice (some ⟨g',0,none⟩) m cap∧g'<w.heap.size∧∀k,k<m→w.cell? ⟨g',k,none⟩=some (.int .i64 ((R1.start+k * R1.size:Nat):Int)):=by
 refine⟨b,rfl,(h.lt b rfl).2,fun k hk=>?_⟩
 have:=h.cells (g:=b) rfl k (.int .i64 ((R1.start+k * R1.size:Nat):Int)) (by
  show ((plc R1.start R1.size m).map _)[k]? = _
  rw[List.getElem?_map,List.getElem?_eq_getElem (by rw[plc_length];exact hk),plc_get];rfl)
 rw[add_lit]at this
 exact this
def RowS.cutR (R:RowS) (k:Int):RowS:=if R.keepN k=R.cnt then R else R.firsts (R.keepN k)
theorem cut_facts (h:RowOk R) {j:Nat} (h1:R.start≤j) (h2:j≤R.fin):RowOk (R.cutR j)∧(R.cutR j).start=R.start∧(R.cutR j).lastp≤j∧j≤(R.cutR j).fin:=by
 have hq:∀i,i<R.keepN j→i<R.cnt→cutQ R j (R.start+i * R.size)=false:=fun i hi hc=>by
  rw[keepN_eq]at hi
  have hg:R.places[i]'(by rw[R.length];exact hc)=R.start+i * R.size:=plc_get _ _ _ _
  cases h:R.places.findIdx? (cutQ R j) with
  | none =>
   rw[List.findIdx?_eq_none_iff]at h
   have:=h (R.places[i]'(by rw[R.length];exact hc)) (List.getElem_mem _)
   rw[hg]at this
   exact this
  | some m =>
   rw[h]at hi
   rw[List.findIdx?_eq_some_iff_getElem]at h
   obtain⟨_,_,h3⟩:=h
   have:=h3 i hi
   rw[hg]at this
   simpa using this
 have hlast:∀i,i+1≤R.keepN j→i<R.cnt→R.start+i * R.size≤j:=fun i hi hc=>by
  have h3:=hq i (by omega) hc
  unfold cutQ at h3
  rw[Bool.and_eq_false_iff,decide_eq_false_iff_not,decide_eq_false_iff_not]at h3
  rcases h3 with h3|h3<;>omega
 rcases keepN_cases R j with ⟨_,e⟩|⟨_,h3,h4,h5⟩
 ·unfold RowS.cutR
  rw[if_pos e]
  refine⟨h,rfl,?_,h2⟩
  by_cases h0:0<R.cnt
  ·exact hlast (R.cnt-1) (by omega) (by omega)
  ·unfold RowS.lastp
   have:R.cnt=0:=by omega
   rw[this]
   simpa using h1
 ·unfold RowS.cutR
  rw[if_neg (by omega)]
  obtain⟨k1,k2,k3⟩:=h.firsts h4 h3
  refine⟨k1,rfl,hlast (R.keepN j-1) (by omega) (by omega),?_⟩
  rw[k2]
  omega
theorem RowOk.fined (h:RowOk R) {j:Nat} (h1:R.start≤j) (h2:R.lastp≤j) (h3:j≤R.fin):RowOk { R with fin:=j }:=by
 have:=h.ends h1 h2 h3
 exact⟨this.size,this.head,this.none,this.fin,this.least,this.mod,h.synced⟩
def CutDone (W:World) (r p n:Nat) (D:DiskS) (R:RowS) (F:Nat→Prop) (v:Value) (k:Int) (w:World) (e:Ending) (w':World):Prop :=
 ∃F' v',e=.returned (.int .i64 (cutD D R k).1)∧SegAt W w' r p n (cutD D R k).2.1 (cutD D R k).2.2 F' v'∧SegStep w r F v w' F' v'
def namesN (R:RowS) (i j:Nat):List ByteArray:=((R.places.drop i).take j).map (nameB R.head)
theorem names_snoc (R:RowS) (i j:Nat) (h:i+j<R.cnt):namesN R i (j+1)=namesN R i j++[nameB R.head (R.start+(i+j) * R.size)]:=by
 unfold namesN RowS.places
 rw[plc_drop,plc_take _ _ _ _ (by omega),plc_take _ _ _ _ (by omega),plc_snoc,List.map_append,Nat.add_assoc,←Nat.add_mul]
 rfl
theorem names_len (R:RowS) (i j:Nat) (h:i+j≤R.cnt):(namesN R i j).length=j:=by
 unfold namesN
 rw[List.length_map,List.length_take,List.length_drop,R.length];omega
theorem names_all (R:RowS) (i:Nat) (h:i≤R.cnt):namesN R i (R.cnt-i)=(R.places.drop i).map (nameB R.head):=by
 unfold namesN
 rw[List.take_of_length_le (by rw[List.length_drop,R.length];exact Nat.le_refl _)]
set_option maxHeartbeats 16000000 in
theorem Cut_row (k:Int) (w:World) (h:SegAt W w r p n D R F v) (hn:n≤1000000) :
  Calls Tryz.prog 58 #[ptrTo r,.int .i64 k] w (CutDone W r p n D R F v k w):=by
 have hcal:=((Calm.refl w).alloc (.cells #[ptrTo r] 104)).alloc (.cells #[.int .i64 k] 3)
 have hbr:=heap_old _ (.cells #[.int .i64 k] 3) (heap_new w (.cells #[ptrTo r] 104))
 have hba:=heap_new (w.alloc (.cells #[ptrTo r] 104)) (.cells #[.int .i64 k] 3)
 rw[World.size_alloc]at hba
 have hFw:=h.disk.foot_lt
 have hrl:=heap_lt h.row.at_
 have hvl:∀g,v.ownBlock=some g→g<w.heap.size:=fun g hg=>(h.row.row.lt g hg).2
 have hw0:∃x,(w.alloc (.cells #[ptrTo r] 104)).alloc (.cells #[.int .i64 k] 3)=x:=⟨_,rfl⟩
 obtain⟨w0,hw0⟩:=hw0
 rw[hw0]at hcal hbr hba
 have HC0:=box hcal
 have H:=box (h.drew hcal)
 have HB:=box (fun (w':World) (F':Nat→Prop) (v':Value) (s:SegStep w0 r F v w' F' v')=>(show w'.heap[w.heap.size]? = some (.cells #[ptrTo r] 104 (0,0))∧w'.heap[w.heap.size+1]? = some (.cells #[.int .i64 k] 3 (0,0)) from
  ⟨s.same hbr (fun hf=>by have:=hFw _ hf;omega) (by omega) (fun e=>by have:=hvl _ e;omega),s.same hba (fun hf=>by have:=hFw _ hf;omega) (by omega) (fun e=>by have:=hvl _ e;omega)⟩))
 have HDD:=box (Down_any w0 H.out.disk.lies)
 have hle:=h.row.ok.le
 have hfew:=h.row.ok.few
 have hz:=h.row.ok.size
 have Hok:=box h.row.ok
 have br:w0.cell? ⟨w.heap.size,0,none⟩=some (ptrTo r):=cell_of hbr 0
 have ba:w0.cell? ⟨w.heap.size+1,0,none⟩=some (.int .i64 k):=cell_of hba 0
 have blr:=heap_lt hbr
 have bla:=heap_lt hba
 obtain⟨c0,c1,c2,c3,c4,c5⟩:=H.out.row.cells
 have hlt:=heap_lt H.out.row.at_
 have hFw:=box H.out.disk.foot_lt
 have hFw0:=box h.disk.foot_lt
 clear h hcal hbr hba hvl
 have Hw0:=box hw0
 have hwz:w.heap.size+1<w0.heap.size:=bla
 by_cases hd:D.down=true
 ·have hr:cutD D R k=(8,D,R):=by unfold cutD;rw[if_pos hd]
  have Hr:=box hr
  rw[hd]at HDD
  clear hd hr
  go_enter Tryz.func58,Tryz.ntmps58
  go_upto_region 1 with fail
  clear hw0
  go_wp2_with fail
  refine HDD.out.mono ?_
  rintro e w1 ⟨rfl,rfl⟩
  go_wp2_with fail
  go_ret
  exact⟨F,v,by rw[Hr.out];rfl,by rw[Hr.out];exact H.out,SegStep.of_calm HC0.out⟩
 have hdf:D.down=false:=by simpa using hd
 rw[hdf]at HDD
 have HBg:=box (fun n=>Begin_quiet w0 n H.out.row)
 by_cases h1:k<R.start
 ·have hr:cutD D R k=(2,D,R):=by unfold cutD;rw[if_neg hd,if_pos (.inl h1)]
  have Hr:=box hr
  have t1:decide (k<(R.start:Int))=true:=decide_eq_true h1
  clear hd hr h1
  go_enter Tryz.func58,Tryz.ntmps58
  go_upto_region 1 with fail
  clear hw0
  go_wp2_with fail
  refine HDD.out.mono ?_
  rintro e w1 ⟨rfl,rfl⟩
  go_wp2_with (first|go_quiet ((go_at_call 70;exact HBg.out _))|fail)
  go_ret
  exact⟨F,v,by rw[Hr.out];rfl,by rw[Hr.out];exact H.out.drew ((Calm.refl _).drewN _),SegStep.of_calm (HC0.out.trans ((Calm.refl _).drewN _))⟩
 have t1:decide (k<(R.start:Int))=false:=decide_eq_false h1
 by_cases h2:(R.fin:Int)<k
 ·have hr:cutD D R k=(2,D,R):=by unfold cutD;rw[if_neg hd,if_pos (.inr h2)]
  have Hr:=box hr
  have t2:decide ((R.fin:Int)<k)=true:=decide_eq_true h2
  clear hd hr h1 h2
  go_enter Tryz.func58,Tryz.ntmps58
  go_upto_region 1 with fail
  clear hw0
  go_wp2_with fail
  refine HDD.out.mono ?_
  rintro e w1 ⟨rfl,rfl⟩
  go_wp2_with (first|go_quiet ((go_at_call 70;exact HBg.out _))|fail)
  go_ret
  exact⟨F,v,by rw[Hr.out];rfl,by rw[Hr.out];exact H.out.drew ((Calm.refl _).drewN _),SegStep.of_calm (HC0.out.trans ((Calm.refl _).drewN _))⟩
 have hr0:cutD D R k=if (cutA D R k).1≠0 then cutA D R k else cutB (cutA D R k).2.1 (cutA D R k).2.2 k:=by
  unfold cutD;rw[if_neg hd,if_neg (by intro h;exact h.elim h1 h2)]
 obtain⟨j,rfl⟩:∃j:Nat,k=j:=⟨k.toNat,by omega⟩
 have Hf:=box (cut_facts Hok.out (j:=j) (by omega) (by omega))
 have Hr0:=box hr0
 have t1:decide (j<R.start)=false:=decide_eq_false (by omega)
 have t2:decide (R.fin<j)=false:=decide_eq_false (by omega)
 have hjf:j≤R.fin:=by omega
 have hjs:R.start≤j:=by omega
 have hIdx:=box (fun (W':World) (hc:Calm w0 W')=>IndexFunc_any (w.heap.size+1) w.heap.size (j:Int) W' (H.out.row.calm hc) (cell_of (heap_calm hc (HB.out _ _ _ SegStep.refl).2) 0) (cell_of (heap_calm hc (HB.out _ _ _ SegStep.refl).1) 0))
 clear hd hdf hr0 h1 h2
 have hcases:=keepN_cases R j
 obtain⟨ix,hix⟩:∃ix,idxP R j=ix:=⟨_,rfl⟩
 rw[hix]at hcases hIdx
 clear hix
 obtain⟨a,cap,rfl,hcap,hmx,hel⟩:=H.out.row.uni
 have Hel:=box hel
 have Hcap:=box hcap
 clear hel hmx hcap
 rcases hcases with ⟨rfl,hk0⟩|⟨rfl,hk0,hk1,hk2⟩
 ·have HA:=box (show cutA D R j=(0,D,R) by unfold cutA;rw[if_pos hk0])
  have hf:=Hf.out
  unfold RowS.cutR at hf
  rw[if_pos hk0]at hf
  have HF1:=box hf
  clear hf hk0 Hf
  go_enter Tryz.func58,Tryz.ntmps58
  go_upto_region 1 with fail
  clear hw0
  go_wp2_with fail
  refine HDD.out.mono ?_
  rintro e w1 ⟨rfl,rfl⟩
  go_wp2_with (first|go_quiet ((go_at_call 70;exact HBg.out _))|fail)
  refine(hIdx.out _ ((Calm.refl w0).drewN _)).mono ?_
  rintro e w1 ⟨rfl,rfl⟩
  have HT1:=box (SegStep.of_calm (r:=r) (F:=F) (v:=(.slice a R.cnt cap)) ((Calm.refl w0).drewN nq))
  have HS1:=box (H.out.drew ((Calm.refl w0).drewN nq))
  clear c0 c1 c2 c3 c4 c5 hlt br ba blr bla
  go_upto_region 20 with fail
  generalize w0.drewN nq=wq at HT1 HS1 ⊢
  have hlp:=HF1.out.2.2.1
  have hjf1:=HF1.out.2.2.2
  have hs1:(R).start≤j:=hjs
  have hok1:=HF1.out.1
  have hle1:=hok1.le
  have q1:=(HB.out _ _ _ HT1.out).1
  have q2:=(HB.out _ _ _ HT1.out).2
  have br:wq.cell? ⟨w.heap.size,0,none⟩=some (ptrTo r):=cell_of q1 0
  have ba:wq.cell? ⟨w.heap.size+1,0,none⟩=some (.int .i64 (j:Int)):=cell_of q2 0
  have blr:=heap_lt q1
  have bla:=heap_lt q2
  obtain⟨c0,c1,c2,c3,c4,c5⟩:=HS1.out.row.cells
  have hlt:=heap_lt HS1.out.row.at_
  clear q1 q2
  by_cases h3:j<(R).fin
  ·have t3:decide (j<(R).fin)=true:=decide_eq_true h3
   have h0:0<(R).cnt:=by
    rcases Nat.eq_zero_or_pos (R).cnt with h0|h0
    ·have:=hok1.none h0;omega
    ·exact h0
   go_upto_region 21 with (first|go_quiet (fail)|fail)
   have HS2:=box (HS1.out.drew ((Calm.refl wq).drewN nq))
   have HT2:=box (HT1.out.calm ((Calm.refl wq).drewN nq))
   clear br ba blr bla c0 c1 c2 c3 c4 c5 hlt
   generalize wq.drewN nq=wp at HS2 HT2 ⊢
   have q1:=(HB.out _ _ _ HT2.out).1
   have q2:=(HB.out _ _ _ HT2.out).2
   have br:wp.cell? ⟨w.heap.size,0,none⟩=some (ptrTo r):=cell_of q1 0
   have ba:wp.cell? ⟨w.heap.size+1,0,none⟩=some (.int .i64 (j:Int)):=cell_of q2 0
   have blr:=heap_lt q1
   have bla:=heap_lt q2
   obtain⟨c0,c1,c2,c3,c4,c5⟩:=HS2.out.row.cells
   have hlt:=heap_lt HS2.out.row.at_
   clear q1 q2
   obtain⟨g1,cp1,hv1,hcp1,hg1,hc1⟩:=last_cell HS2.out.row h0
   rw[hv1]at c3
   clear hv1
   have hlast1:=hok1.least h0
   have hfew1:=hok1.few
   have hname:=box (fun (W':World) (hc:Calm wp W')=>name_any (R).lastp W' (HS2.out.row.calm hc) hlast1 (tab_calm HS2.out.tab' hc))
   have hcut:=box (fun (W':World) (hc:Calm wp W')=>Cut_ok (nameB (R).head (R).lastp) ((j:Int)-(R).lastp) W' (HS2.out.disk.calm hc) hn)
   have hK:=box (fun (W':World) (F':Nat→Prop) (v':Value) (hs:SegStep w0 r F (.slice a R.cnt cap) W' F' v') (hr:RowAt W' r p (R) (.slice a R.cnt cap))=>(show W'.cell? ⟨w.heap.size,0,none⟩=some (ptrTo r)∧W'.cell? ⟨w.heap.size+1,0,none⟩=some (.int .i64 (j:Int))∧W'.cell? ⟨r,0,none⟩=some (ptrTo p) from
    ⟨cell_of (HB.out _ _ _ hs).1 0,cell_of (HB.out _ _ _ hs).2 0,hr.cells.1⟩))
   have hokj:=box (hok1.fined (j:=j) hs1 hlp hjf1)
   have hokF:=box (hok1.ends (k:=j) hs1 hlp hjf1)
   have k1:IntKind.i64.wrap (((R).cnt:Int)-1)=(((R).cnt-1:Nat):Int):=by rw[IntWalk.i64_in _ (by omega)];omega
   have hcutB:∀c6 D6,D.cut (nameB (R).head (R).lastp) ((j:Int)-(R).lastp)=(c6,D6)→cutD D R j=if c6≠0 then (c6,D6,R) else (0,D6,(R).ends j):=fun c6 D6 h=>by
    rw[Hr0.out,HA.out,if_neg (fun h=>h rfl)]
    unfold cutB
    rw[if_pos (by simp only;omega)]
    simp only[h,Int.toNat_natCast]
   have HcB:=box hcutB
   obtain⟨m1,hm1⟩:∃m,(R).cnt-1=m:=⟨_,rfl⟩
   rw[hm1]at hc1 k1
   have hmn1:m1<(R).cnt:=by omega
   obtain⟨lp,hlpe⟩:∃lp,(R).lastp=lp:=⟨_,rfl⟩
   rw[hlpe]at hc1 hname hcut hlp HcB
   have k2:IntKind.i64.wrap ((j:Int)-lp)=(j:Int)-lp:=IntWalk.i64_in _ (by omega)
   clear hcutB hm1 hlpe hlast1 hfew1
   go_upto_region 22 with (first|go_quiet (fail)|fail)
   have hCq:Calm wp (wp.drewN nq):=(Calm.refl wp).drewN nq
   have kq0:(wp.drewN nq).cell? ⟨w.heap.size,0,none⟩=some (ptrTo r):=br
   have kq1:(wp.drewN nq).cell? ⟨w.heap.size+1,0,none⟩=some (.int .i64 (j:Int)):=ba
   have kq2:(wp.drewN nq).cell? ⟨r,0,none⟩=some (ptrTo p):=c0
   have kl0:w.heap.size<(wp.drewN nq).heap.size:=blr
   have kl1:w.heap.size+1<(wp.drewN nq).heap.size:=bla
   have kl2:r<(wp.drewN nq).heap.size:=hlt
   clear br ba blr bla c0 c1 c2 c3 c4 c5 hlt hc1 k1
   generalize wp.drewN nq=wt at hCq kq0 kq1 kq2 kl0 kl1 kl2 ⊢
   go_region_held3 (fun w'=>w'.cell? ⟨w.heap.size,0,none⟩=some (ptrTo r)∧w'.cell? ⟨w.heap.size+1,0,none⟩=some (.int .i64 (j:Int))∧w'.cell? ⟨r,0,none⟩=some (ptrTo p)) (first
    | go_keep
    | exact hK.out _ _ _ ((HT2.out.calm (by exact cm)).trans (SegStep.of_disk hs6)) ((HS2.out.row.calm (by exact cm)).step (HS2.out.disk.calm (by exact cm)) hs6)
    | exact hK.out _ _ _ (HT2.out.calm (by exact cm)) (HS2.out.row.calm (by exact cm))) (first
    | (go_at_call 90;refine(hname.out _ (by exact cm)).mono ?_;rintro e w5 ⟨rfl,hc5⟩)
    | (go_at_call 103;refine(hcut.out _ (by exact cm)).mono ?_;rintro e w6 ⟨rfl,F6,hd6,hs6⟩))
   have HC5:=box (show Calm wp w5 by exact cm)
   have hS6:=(HS2.out.drew HC5.out).disked hd6 hs6
   obtain⟨⟨c6,D6⟩,hr6⟩:∃x,D.cut (nameB (R).head lp) ((j:Int)-lp)=x:=⟨_,rfl⟩
   have hp6:=HcB.out c6 D6 hr6
   rw[hr6]at hS6 ⊢
   simp only at hS6 ⊢
   have Hp6:=box hp6
   have HS6:=box hS6.1
   have HT6:=box (HT2.out.trans (SegStep.trans (SegStep.of_calm HC5.out) hS6.2))
   clear hS6 hd6 hs6 hr6 hp6 hc5 hname hcut hCq kq0 kq1 kq2 kl0 kl1 kl2
   rcases err_cases c6 with rfl|⟨y1,y2,y3⟩
   ·have q1:=(HB.out _ _ _ HT6.out).1
    have q2:=(HB.out _ _ _ HT6.out).2
    have br:w6.cell? ⟨w.heap.size,0,none⟩=some (ptrTo r):=cell_of q1 0
    have ba:w6.cell? ⟨w.heap.size+1,0,none⟩=some (.int .i64 (j:Int)):=cell_of q2 0
    have blr:=heap_lt q1
    have bla:=heap_lt q2
    have e4:=HS6.out.row.cells.2.2.2.2.1
    have f4:=free_of HS6.out.row.at_ 4
    have elt:=heap_lt HS6.out.row.at_
    have hS7:=HS6.out.set (R':={ R with fin:=j }) 4 (.int .i64 (j:Int)) rfl ⟨rfl,rfl⟩ hokj.out
    have HS7:=box hS7.1
    have HT7:=box (HT6.out.trans hS7.2)
    clear q1 q2 hS7
    go_upto_region 26 with fail
    obtain⟨ws,hws⟩:∃x,w6.setCell ⟨r,4,none⟩ (.int .i64 (j:Int))=x:=⟨_,rfl⟩
    rw[hws]at HS7 HT7
    rw[hws]
    clear hws br ba blr bla e4 f4 elt
    have q5:ws.cell? ⟨r,5,none⟩=some (.int .i64 (R).synced):=HS7.out.row.cells.2.2.2.2.2
    have q4:ws.cell? ⟨r,4,none⟩=some (.int .i64 (j:Int)):=HS7.out.row.cells.2.2.2.2.1
    have qb:ws.cell? ⟨w.heap.size,0,none⟩=some (ptrTo r):=cell_of (HB.out _ _ _ HT7.out).1 0
    have ql:=heap_lt HS7.out.row.at_
    have qf:=free_of HS7.out.row.at_ 5
    have hg5:(ws.drew.setCell ⟨r,5,none⟩ (.int .i64 ((min (R).synced j:Nat):Int))).cell? ⟨w.heap.size,0,none⟩=some (ptrTo r)∧(ws.drew.setCell ⟨r,5,none⟩ (.int .i64 ((min (R).synced j:Nat):Int))).cell? ⟨r,4,none⟩=some (.int .i64 j):=by
     have e1:ws.drew.heap[r]? = some (.cells (rowCells p ({ R with fin:=j }) (.slice a R.cnt cap)) 128 (0,0)):=HS7.out.row.at_
     have e2:ws.drew.heap[w.heap.size]? = some (.cells #[ptrTo r] 104 (0,0)):=(HB.out _ _ _ HT7.out).1
     exact⟨cell_of ((heap_set_other (by omega) 5 _).trans e2) 0,cell_of (heap_set e1 5 _) 4⟩
    have hS5:=HS7.out.drew ((Calm.refl ws).drew)
    have hS6:=hS5.set (R':=(R).ends j) 5 (.int .i64 ((min (R).synced j:Nat):Int)) rfl ⟨rfl,rfl⟩ hokF.out
    have HS6:=box hS6.1
    have HT6:=box (HT7.out.trans (SegStep.trans (SegStep.of_calm ((Calm.refl ws).drew)) hS6.2))
    have Hg5:=box hg5
    have hmin:min ((R).synced:Int) (j:Int)=((min (R).synced j:Nat):Int):=by omega
    clear hS5 hS6 hg5
    have hfin:=(show cutD D R j=(0,D6,(R).ends j) by rw[Hp6.out];simp)
    refine wp_region_held_drew (S:=fun W=>Box (W.cell? ⟨w.heap.size,0,none⟩=some (ptrTo r))∧Box (W.cell? ⟨r,4,none⟩=some (.int .i64 j))) (by kernel_rfl) ⟨box qb,box q4⟩ (fun hHeld=>?_)
    (refine tkl 0 ?_;refine tkl 1 ?_)
    (refine tk 2 ?_;refine tk 3 ?_)
    (refine tkl 5 ?_)
    (refine tk 6 ?_;refine tk 7 ?_)
    (refine tkl 8 ?_)
    refine wpAnyH_ready (rs:=[4]) (by kernel_rfl) (by simp) ?_
    refine AllReadyH.cons rfl (fun K hK=>?_) AllReadyH.nil
    rw[if_pos (by rfl)]
    go_simp
    refine hK.out _ _ ⟨box qb,box q4⟩ (fun hHeld2=>?_)
    clear hK K
    try simp only[List.getElem_toArray,List.getElem_cons_succ,List.getElem_cons_zero,Act.put,List.setIfInBounds_toArray,List.set_cons_zero,List.set_cons_succ]
    (refine tk 9 ?_;refine tk 10 ?_;refine tk 11 ?_)
    refine wpAnyH_ready (rs:=[12]) (by kernel_rfl) (by simp) ?_
    refine AllReadyH.cons rfl (fun K hK=>?_) AllReadyH.nil
    rw[if_pos (by rfl)]
    go_simp
    refine hK.out _ _ ⟨box Hg5.out.1,box Hg5.out.2⟩ (fun _=>?_)
    clear hK K
    try simp only[List.getElem_toArray,List.getElem_cons_succ,List.getElem_cons_zero,Act.put,List.setIfInBounds_toArray,List.set_cons_zero,List.set_cons_succ]
    refine wpAnyH_done (by kernel_rfl) ?_ _
    go_wp2_with fail
    go_ret
    exact⟨_,_,by rw[hfin];rfl,by rw[hfin];exact HS6.out,(SegStep.of_calm HC0.out).trans HT6.out⟩
   ·go_wp2_with fail
    go_ret
    have hr:cutD D R j=(c6,D6,R):=by rw[Hp6.out,if_pos y1.out]
    exact⟨F6,_,by rw[hr];rfl,by rw[hr];exact HS6.out,(SegStep.of_calm HC0.out).trans HT6.out⟩
  ·have t3:decide (j<(R).fin)=false:=decide_eq_false h3
   go_upto_region 26 with (first|go_quiet (fail)|fail)
   have f5:=free_of HS1.out.row.at_ 5
   have q5:(wq.drewN nq).cell? ⟨r,5,none⟩=some (.int .i64 (R).synced):=c5
   have q4:(wq.drewN nq).cell? ⟨r,4,none⟩=some (.int .i64 (R).fin):=c4
   have qb:(wq.drewN nq).cell? ⟨w.heap.size,0,none⟩=some (ptrTo r):=br
   have ql:r<(wq.drewN nq).heap.size:=hlt
   have qf:(wq.drewN nq).frozen? ⟨r,5,none⟩=false:=f5
   have HS2:=box (HS1.out.drew ((Calm.refl wq).drewN nq))
   have HT2:=box (HT1.out.calm ((Calm.refl wq).drewN nq))
   clear br ba blr bla c0 c1 c2 c3 c4 c5 hlt f5
   generalize wq.drewN nq=wr at HS2 HT2 q5 q4 qb ql qf ⊢
   have hg5:(wr.drew.setCell ⟨r,5,none⟩ (.int .i64 ((min (R).synced (R).fin:Nat):Int))).cell? ⟨w.heap.size,0,none⟩=some (ptrTo r)∧(wr.drew.setCell ⟨r,5,none⟩ (.int .i64 ((min (R).synced (R).fin:Nat):Int))).cell? ⟨r,4,none⟩=some (.int .i64 (R).fin):=by
    have e1:wr.drew.heap[r]? = some (.cells (rowCells p (R) (.slice a R.cnt cap)) 128 (0,0)):=HS2.out.row.at_
    have e2:wr.drew.heap[w.heap.size]? = some (.cells #[ptrTo r] 104 (0,0)):=(HB.out _ _ _ HT2.out).1
    exact⟨cell_of ((heap_set_other (by omega) 5 _).trans e2) 0,cell_of (heap_set e1 5 _) 4⟩
   have hS5:=HS2.out.drew ((Calm.refl wr).drew)
   have hS6:=hS5.set (R':=(R).ends (R).fin) 5 (.int .i64 ((min (R).synced (R).fin:Nat):Int)) rfl ⟨rfl,rfl⟩ (hok1.ends (by omega) (by have:=hok1.fin;omega) (Nat.le_refl _))
   have HS6:=box hS6.1
   have HT6:=box (HT2.out.trans (SegStep.trans (SegStep.of_calm ((Calm.refl wr).drew)) hS6.2))
   have Hg5:=box hg5
   have hmin:min ((R).synced:Int) ((R).fin:Int)=((min (R).synced (R).fin:Nat):Int):=by omega
   clear hS5 hS6 hg5
   have hfin:=(show cutD D R j=(0,D,(R).ends (R).fin) by rw[Hr0.out,HA.out,if_neg (fun h=>h rfl)];unfold cutB;rw[if_neg (by simp only;omega)])
   refine wp_region_held_drew (S:=fun W=>Box (W.cell? ⟨w.heap.size,0,none⟩=some (ptrTo r))∧Box (W.cell? ⟨r,4,none⟩=some (.int .i64 (R).fin))) (by kernel_rfl) ⟨box qb,box q4⟩ (fun hHeld=>?_)
   (refine tkl 0 ?_;refine tkl 1 ?_)
   (refine tk 2 ?_;refine tk 3 ?_)
   (refine tkl 5 ?_)
   (refine tk 6 ?_;refine tk 7 ?_)
   (refine tkl 8 ?_)
   refine wpAnyH_ready (rs:=[4]) (by kernel_rfl) (by simp) ?_
   refine AllReadyH.cons rfl (fun K hK=>?_) AllReadyH.nil
   rw[if_pos (by rfl)]
   go_simp
   refine hK.out _ _ ⟨box qb,box q4⟩ (fun hHeld2=>?_)
   clear hK K
   try simp only[List.getElem_toArray,List.getElem_cons_succ,List.getElem_cons_zero,Act.put,List.setIfInBounds_toArray,List.set_cons_zero,List.set_cons_succ]
   (refine tk 9 ?_;refine tk 10 ?_;refine tk 11 ?_)
   refine wpAnyH_ready (rs:=[12]) (by kernel_rfl) (by simp) ?_
   refine AllReadyH.cons rfl (fun K hK=>?_) AllReadyH.nil
   rw[if_pos (by rfl)]
   go_simp
   refine hK.out _ _ ⟨box Hg5.out.1,box Hg5.out.2⟩ (fun _=>?_)
   clear hK K
   try simp only[List.getElem_toArray,List.getElem_cons_succ,List.getElem_cons_zero,Act.put,List.setIfInBounds_toArray,List.set_cons_zero,List.set_cons_succ]
   refine wpAnyH_done (by kernel_rfl) ?_ _
   go_wp2_with fail
   go_ret
   exact⟨_,_,by rw[hfin];rfl,by rw[hfin];exact HS6.out,(SegStep.of_calm HC0.out).trans HT6.out⟩
 ·obtain⟨b,rfl,hb0,_⟩:=Hel.out 0 (by omega)
  have hf:=Hf.out
  unfold RowS.cutR at hf
  rw[if_neg (by omega)]at hf
  have hA0:cutA D R j=if (D.delete ((R.places.drop (R.keepN j)).map (nameB R.head))).1≠0 then ((D.delete ((R.places.drop (R.keepN j)).map (nameB R.head))).1,(D.delete ((R.places.drop (R.keepN j)).map (nameB R.head))).2,R) else (0,(D.delete ((R.places.drop (R.keepN j)).map (nameB R.head))).2,R.firsts (R.keepN j)):=by unfold cutA;rw[if_neg (by omega)]
  obtain⟨i,hi⟩:∃i,R.keepN j=i:=⟨_,rfl⟩
  rw[hi]at hf hA0 hk0 hk1 hk2 hIdx
  rw[←names_all R i (by omega)]at hA0
  have HA0:=box hA0
  have HF0:=box hf
  clear hi hf hA0 Hf hb0
  have ht4:decide ((0:Int)≤(i:Int))=true:=decide_eq_true (by omega)
  have hfull:=box (fun m (hm:m<R.cnt-i) (W':World) (hc:Calm w0 W')=>name_any (R.start+(i+m) * R.size) W' (H.out.row.calm hc) (H.out.row.ok.place (by omega)).2 (tab_calm H.out.tab' hc))
  go_enter Tryz.func58,Tryz.ntmps58
  go_upto_region 1 with fail
  clear hw0
  go_wp2_with fail
  refine HDD.out.mono ?_
  rintro e w1 ⟨rfl,rfl⟩
  go_wp2_with (first|go_quiet ((go_at_call 70;exact HBg.out _))|fail)
  refine(hIdx.out _ ((Calm.refl w0).drewN _)).mono ?_
  rintro e w1 ⟨rfl,rfl⟩
  have HC1:=box ((Calm.refl w0).drewN nq)
  go_upto_region 9 with fail
  clear c0 c1 c2 c3 c4 c5 hlt br ba blr bla
  generalize w0.drewN nq=wp at HC1 ⊢
  have HSp:=box (H.out.drew HC1.out)
  have HTp:=box (SegStep.of_calm (r:=r) (F:=F) (v:=(.slice (some ⟨b,0,none⟩) R.cnt cap)) HC1.out)
  have Hcells:=box (fun (W':World) (hc:Calm wp W')=>(show W'.cell? ⟨w.heap.size,0,none⟩=some (ptrTo r)∧w.heap.size<W'.heap.size∧W'.cell? ⟨r,0,none⟩=some (ptrTo p)∧W'.cell? ⟨r,3,none⟩=some (.slice (some ⟨b,0,none⟩) R.cnt cap)∧r<W'.heap.size from
   ⟨cell_of (HB.out _ _ _ (HTp.out.calm hc)).1 0,heap_lt (HB.out _ _ _ (HTp.out.calm hc)).1,(HSp.out.row.calm hc).cells.1,(HSp.out.row.calm hc).cells.2.2.2.1,heap_lt (HSp.out.row.calm hc).at_⟩))
  obtain⟨br,blr,c0,c3,hlt⟩:=Hcells.out wp (Calm.refl _)
  have hic:i≤R.cnt:=by omega
  have Hcap2:=Hcap.out
  have hicap:i≤cap:=by omega
  go_wp2_with fail
  go_loopw [6,49] (fun nv iv wr=>∃m:Nat,m≤R.cnt-i∧iv=.int .i64 m∧Calm wp wr∧wr.ownsRow wp.heap.size 9 1 nv (namesN R i m).length ((namesN R i m).map Value.string)) (fun _ iv _=>R.cnt-i-(intOf iv).toNat)
  case atStart=>exact⟨0,Nat.zero_le _,rfl,Calm.refl _,World.ownsRow_nil _ _ _ _⟩
  case round =>
   obtain⟨m,hm,rfl,hC,hrow⟩:=hrel
   have HC:=box hC
   have hnl:=names_len R i m (by omega)
   obtain⟨na,nc,hnv,hnc⟩:=row_cap hrow
   rw[hnl]at hnv
   subst hnv
   have Hrow:=box hrow
   clear hC hrow hnc
   obtain⟨wo,hwo⟩:∃wo:World,wo=wr:=⟨_,rfl⟩
   subst hwo
   obtain⟨br,blr,c0,c3,hlt⟩:=Hcells.out wo HC.out
   by_cases hlm:m<R.cnt-i
   ·obtain⟨b',he,hb,hc⟩:=Hel.out (i+m) (by omega)
    cases he
    have hcc:Calm w0 wo:=HC1.out.trans HC.out
    have dc:=(hcc.cell (p:=⟨b,i+m,none⟩) hb).trans hc
    have hbl:=Nat.lt_of_lt_of_le hb hcc.size
    clear hcc
    have hname:=box (fun (W':World) (hc:Calm wo W')=>hfull.out m hlm W' (HC1.out.trans (HC.out.trans hc)))
    have hsn:=box (names_snoc R i m (by omega))
    obtain⟨q,hq⟩:∃q,R.start+(i+m) * R.size=q:=⟨_,rfl⟩
    rw[hq]at dc hname hsn
    clear hc hb hq
    go_wp2_with fail
    refine(hname.out _ (Calm.refl _)).mono ?_
    rintro e w5 ⟨rfl,hc5⟩
    have HC5:=box (HC.out.trans hc5)
    obtain⟨v2,w6,happ,hrow6,hk6⟩:=append_name (w5.alloc (.cells #[.string (nameB R.head q)] 9)) wp.heap.size (.slice na m nc) (namesN R i m) (nameB R.head q) w5.heap.size ((own_calm Hrow.out hc5).alloc _) (by have:=HC5.out.size;rw[World.size_alloc];omega) (heap_new _ _) (by omega) 61
    obtain⟨a2,c2',hv2,hc2'⟩:=row_cap hrow6
    rw[List.length_append,List.length_singleton,hnl]at hv2
    subst hv2
    have Happ:=box happ
    have Hrow6:=box (show w6.ownsRow wp.heap.size 9 1 (.slice a2 (m+1) c2') (namesN R i (m+1)).length ((namesN R i (m+1)).map Value.string) from by rw[hsn.out];exact hrow6)
    have HC6:=box (Below.trans (HC5.out.trans ((Calm.refl w5).alloc (.cells #[.string (nameB R.head q)] 9))) (hk6.below (B:=wp.heap.size) (by have:=HC5.out.size;rw[World.size_alloc];omega) (fun b h=>h)))
    clear happ hrow6 hk6 hc5
    go_wp2_with (first|(at_builtin;refine Lib.wpList_append_run _ rfl _ _ _ _ rfl _ _ rfl rfl _ _ Happ.out ?_)|fail)
    go_roundw
    case rel=>exact⟨m+1,by omega,by go_num,HC6.out,Hrow6.out⟩
    case measure=>simp [intOf];omega
   ·obtain rfl:m=R.cnt-i:=by omega
    have hpF:∀x,F x→x<wp.heap.size:=fun x hx=>Nat.lt_of_lt_of_le (hFw.out x hx) HC1.out.size
    have hdel:=box (Delete_ok (.slice na (R.cnt-i) nc) (namesN R i (R.cnt-i)) wo (HSp.out.disk.calm HC.out) hn (strs_own (by rw[hnl];have h:=Hrow.out;rw[hnl]at h;exact h)) (own_apart (l:=namesN R i (R.cnt-i)) (by have h:=Hrow.out;exact h) hpF) (by rw[hnl];omega))
    have HS0:=box (HSp.out.drew HC.out)
    have HT0:=box (HTp.out.calm HC.out)
    clear Hrow hpF hnl
    go_wp2_with fail
    refine hdel.out.mono ?_
    intro e w4 h4
    obtain⟨⟨c4',D4⟩,hr4⟩:∃x,D.delete (namesN R i (R.cnt-i))=x:=⟨_,rfl⟩
    obtain⟨rfl,F4,hd4,hs4⟩:=h4.at hr4
    have hA0:=HA0.out
    rw[hr4]at hA0
    have HA1:=box hA0
    have S4:=HS0.out.disked hd4 hs4
    have HS4:=box S4.1
    have HT4:=box (HT0.out.trans S4.2)
    clear hA0 S4 hd4 hs4 h4 hr4 hdel br blr c0 c3 hlt
    rcases err_cases c4' with rfl|⟨x1,x2,x3⟩
    ·have HF1:=HF0
     have hR1:∃R1,R1=R.firsts i:=⟨_,rfl⟩
     have q1:=(HB.out _ _ _ HT4.out).1
     have qb:w4.drew.cell? ⟨w.heap.size,0,none⟩=some (ptrTo r):=cell_of q1 0
     have c3:w4.drew.cell? ⟨r,3,none⟩=some (.slice (some ⟨b,0,none⟩) R.cnt cap):=HS4.out.row.cells.2.2.2.1
     have hlt:r<w4.drew.heap.size:=heap_lt HS4.out.row.at_
     have f3:w4.drew.frozen? ⟨r,3,none⟩=false:=free_of HS4.out.row.at_ 3
     have e1:w4.drew.heap[w.heap.size]? = some (.cells #[ptrTo r] 104 (0,0)):=q1
     have e2:w4.drew.heap[r]? = some (.cells (rowCells p R (.slice (some ⟨b,0,none⟩) R.cnt cap)) 128 (0,0)):=HS4.out.row.at_
     have hbr5:=(heap_set_other (w:=w4.drew) (b:=w.heap.size) (b':=r) (by omega) 3 (.slice (some ⟨b,0,none⟩) i cap)).trans e1
     have hrr5:=heap_set e2 3 (.slice (some ⟨b,0,none⟩) i cap)
     have qb5:(w4.drew.setCell ⟨r,3,none⟩ (.slice (some ⟨b,0,none⟩) i cap)).cell? ⟨w.heap.size,0,none⟩=some (ptrTo r):=cell_of hbr5 0
     have Hbr5:=box hbr5
     have Hrr5:=box hrr5
     clear hbr5 hrr5 e1 e2 q1
     go_upto_region 18 with fail
     refine wp_region_held_drew (S:=fun W=>W.cell? ⟨w.heap.size,0,none⟩=some (ptrTo r)) (by kernel_rfl) qb (fun hHeld=>?_)
     (refine tk 0 ?_;refine tk 1 ?_;refine tk 2 ?_;refine tk 3 ?_)
     (refine tk 5 ?_)
     refine wpAnyH_ready (rs:=[4]) (by kernel_rfl) (by simp) ?_
     refine AllReadyH.cons rfl (fun K hK=>?_) AllReadyH.nil
     rw[if_pos (by rfl)]
     go_simp
     refine hK.out _ _ qb (fun hHeld2=>?_)
     clear hK K
     try simp only[List.getElem_toArray,List.getElem_cons_succ,List.getElem_cons_zero,Act.put,List.setIfInBounds_toArray,List.set_cons_zero,List.set_cons_succ]
     (refine tk 6 ?_;refine tk 7 ?_;refine tk 8 ?_)
     refine wpAnyH_ready (rs:=[9]) (by kernel_rfl) (by simp) ?_
     refine AllReadyH.cons rfl (fun K hK=>?_) AllReadyH.nil
     rw[if_pos (by rfl)]
     go_simp
     refine hK.out _ _ qb5 (fun _=>?_)
     clear hK K
     try simp only[List.getElem_toArray,List.getElem_cons_succ,List.getElem_cons_zero,Act.put,List.setIfInBounds_toArray,List.set_cons_zero,List.set_cons_succ]
     refine wpAnyH_done (by kernel_rfl) ?_ _
     have hg5:(w4.setCell ⟨r,3,none⟩ (.slice (some ⟨b,0,none⟩) i cap)).drew.heap[r]? = some (.cells #[ptrTo p,.string R.head,.int .i64 R.size,.slice (some ⟨b,0,none⟩) i cap,.int .i64 R.fin,.int .i64 R.synced] 128 (0,0)):=Hrr5.out
     have hh5:(w4.setCell ⟨r,3,none⟩ (.slice (some ⟨b,0,none⟩) i cap)).drew.heap[w.heap.size]? = some (.cells #[ptrTo r] 104 (0,0)):=Hbr5.out
     have hk5:Keeps (rfoot r (.slice (some ⟨b,0,none⟩) R.cnt cap)) w4 (w4.setCell ⟨r,3,none⟩ (.slice (some ⟨b,0,none⟩) i cap)).drew:=((Keeps.refl _ _).setCell (p:=⟨r,3,none⟩) (.inl (.inl rfl)) _).drew
     have hbr:b≠r:=fun e=>row_ne HS4.out.row (by rw[e];rfl)
     have hrow5:(w4.setCell ⟨r,3,none⟩ (.slice (some ⟨b,0,none⟩) i cap)).drew.ownsRow 0 3 1 (.slice (some ⟨b,0,none⟩) i cap) i (intN (R.firsts i).places):=by
      have h:=own_take HS4.out.row.row hic
      have he:(intN R.places).take i=intN (R.firsts i).places:=by
       show ((plc R.start R.size R.cnt).map _).take i=(plc R.start R.size i).map _
       rw[←List.map_take,plc_take _ _ _ _ hic]
      rw[he]at h
      exact row_same h (fun g e=>heap_set_other (w:=w4) (fun e2=>hbr (by cases e;exact e2)) 3 _)
     obtain⟨w5,hw5⟩:∃x,(w4.setCell ⟨r,3,none⟩ (.slice (some ⟨b,0,none⟩) i cap)).drew=x:=⟨_,rfl⟩
     rw[hw5]at hg5 hh5 hk5 hrow5
     go_upto_region 19 with fail
     (try rw[hw5])
     clear hw5 qb5 qb c3 hlt f3 Hbr5 Hrr5
     obtain⟨g',e',_,hpc0⟩:=(own_ints0 hrow5 (by show 0<i;omega):∃g',(Value.slice (some ⟨b,0,none⟩) i cap)=.slice (some ⟨g',0,none⟩) i cap∧g'<w5.heap.size∧∀m,m<i→w5.cell? ⟨g',m,none⟩=some (.int .i64 ((R.start+m * R.size:Nat):Int)))
     cases e'
     have hpc:=hpc0 (i-1) (by omega)
     have d0:w5.drew.cell? ⟨w.heap.size,0,none⟩=some (ptrTo r):=cell_of hh5 0
     have d3:w5.drew.cell? ⟨r,3,none⟩=some (.slice (some ⟨b,0,none⟩) i cap):=cell_of hg5 3
     have d2:w5.drew.cell? ⟨r,2,none⟩=some (.int .i64 R.size):=cell_of hg5 2
     have d4:w5.drew.cell? ⟨r,4,none⟩=some (.int .i64 R.fin):=cell_of hg5 4
     have f4:w5.drew.frozen? ⟨r,4,none⟩=false:=free_of hg5 4
     have dlt:r<w5.drew.heap.size:=heap_lt hg5
     have dp:w5.drew.cell? ⟨b,i-1,none⟩=some (.int .i64 ((R.start+(i-1) * R.size:Nat):Int)):=hpc
     have hsum:R.start+(i-1) * R.size+R.size=R.start+i * R.size:=by
      obtain⟨c,rfl⟩:∃c,i=c+1:=⟨i-1,by omega⟩
      rw[Nat.add_sub_cancel,Nat.succ_mul];omega
     have hpl:=(Hok.out.place hk0).2
     have k0:IntKind.i64.wrap ((i:Int)-1)=((i-1:Nat):Int):=by rw[IntWalk.i64_in _ (by omega)];omega
     obtain⟨y,hy⟩:∃y,R.start+(i-1) * R.size=y:=⟨_,rfl⟩
     obtain⟨z,hz'⟩:∃z,R.start+i * R.size=z:=⟨_,rfl⟩
     rw[hy]at dp hsum
     rw[hz']at hsum hpl
     have k1:IntKind.i64.wrap ((y:Int)+R.size)=(z:Int):=by rw[IntWalk.i64_in _ (by omega)];omega
     have hmin:min (R.fin:Int) (z:Int)=((R.firsts i).fin:Int):=by
      show _=((min R.fin (R.start+i * R.size):Nat):Int)
      rw[hz'];omega
     obtain⟨i1,hi1⟩:∃x,i-1=x:=⟨_,rfl⟩
     rw[hi1]at dp k0
     have hi2:i1<i:=by omega
     have hh6:=(heap_set_other (w:=w5.drew) (b:=w.heap.size) (b':=r) (by omega) 4 (.int .i64 ((R.firsts i).fin:Int))).trans hh5
     have hg6:=heap_set (w:=w5.drew) hg5 4 (.int .i64 ((R.firsts i).fin:Int))
     have S0:Box ((w5.drew.setCell ⟨r,4,none⟩ (.int .i64 ((R.firsts i).fin:Int))).cell? ⟨w.heap.size,0,none⟩=some (ptrTo r)∧(w5.drew.setCell ⟨r,4,none⟩ (.int .i64 ((R.firsts i).fin:Int))).cell? ⟨r,3,none⟩=some (.slice (some ⟨b,0,none⟩) i cap)∧(w5.drew.setCell ⟨r,4,none⟩ (.int .i64 ((R.firsts i).fin:Int))).cell? ⟨r,2,none⟩=some (.int .i64 R.size)):=⟨cell_of hh6 0,cell_of hg6 3,cell_of hg6 2⟩
     have S1:Box ((w5.drew.setCell ⟨r,4,none⟩ (.int .i64 ((R.firsts i).fin:Int))).cell? ⟨b,i1,none⟩=some (.int .i64 (y:Int))):=box (by
      rw[World.cell?_of_block (w:=w5.drew) (a:=⟨b,i1,none⟩) (heap_set_other hbr 4 _)];exact dp)
     have hS7:=HS4.out.turned (R1:=R.firsts i) (v1:=.slice (some ⟨b,0,none⟩) i cap) (wf:=(w5.drew.setCell ⟨r,4,none⟩ (.int .i64 ((R.firsts i).fin:Int)))) ((hk5.drew).setCell (p:=⟨r,4,none⟩) (.inl (.inl rfl)) _) hg6 (row_same hrow5 (fun g e=>heap_set_other (w:=w5.drew) (fun e2=>hbr (by cases e;exact e2)) 4 _)) (fun g e=>.inl (by cases e;rfl)) HF0.out.1
     have HS7:=box hS7.1
     have HT7:=box (HT4.out.trans hS7.2)
     have HA:=box (show cutA D R j=(0,D4,R.firsts i) by have h:=HA1.out;rw[if_neg (fun h=>h rfl)]at h;exact h)
     clear hS7 hg6 hh6 hg5 hh5 hk5 hrow5 hpc hpc0 hy hz' hi1 HA1 HA0
     refine wp_region_held_drew (S:=fun W=>Box (W.cell? ⟨w.heap.size,0,none⟩=some (ptrTo r)∧W.cell? ⟨r,3,none⟩=some (.slice (some ⟨b,0,none⟩) i cap)∧W.cell? ⟨r,2,none⟩=some (.int .i64 R.size))∧Box (W.cell? ⟨b,i1,none⟩=some (.int .i64 (y:Int)))) (by kernel_rfl) ⟨box ⟨d0,d3,d2⟩,box dp⟩ (fun hHeld=>?_)
     (refine tkl 0 ?_;refine tkl 1 ?_)
     (refine tk 2 ?_;refine tk 3 ?_)
     (refine tkl 5 ?_)
     (refine tk 6 ?_;refine tk 7 ?_)
     (refine tkl 8 ?_)
     (refine tk 9 ?_;refine tk 10 ?_;refine tk 11 ?_)
     (refine tkl 12 ?_;refine tkl 13 ?_)
     (refine tk 14 ?_;refine tk 15 ?_)
     (refine tkl 16 ?_)
     (refine tk 17 ?_)
     refine wpAnyH_ready (rs:=[4]) (by kernel_rfl) (by simp) ?_
     refine AllReadyH.cons rfl (fun K hK=>?_) AllReadyH.nil
     rw[if_pos (by rfl)]
     go_simp
     refine hK.out _ _ ⟨box ⟨d0,d3,d2⟩,box dp⟩ (fun hHeld2=>?_)
     clear hK K
     try simp only[List.getElem_toArray,List.getElem_cons_succ,List.getElem_cons_zero,Act.put,List.setIfInBounds_toArray,List.set_cons_zero,List.set_cons_succ]
     (refine tk 18 ?_;refine tk 19 ?_;refine tk 20 ?_)
     refine wpAnyH_ready (rs:=[21]) (by kernel_rfl) (by simp) ?_
     refine AllReadyH.cons rfl (fun K hK=>?_) AllReadyH.nil
     rw[if_pos (by rfl)]
     go_simp
     refine hK.out _ _ ⟨S0,S1⟩ (fun _=>?_)
     clear hK K
     try simp only[List.getElem_toArray,List.getElem_cons_succ,List.getElem_cons_zero,Act.put,List.setIfInBounds_toArray,List.set_cons_zero,List.set_cons_succ]
     refine wpAnyH_done (by kernel_rfl) ?_ _
     have HS1:=box (show SegAt W (w5.setCell ⟨r,4,none⟩ (.int .i64 ((R.firsts i).fin:Int))).drew r p n D4 (R.firsts i) F4 (.slice (some ⟨b,0,none⟩) i cap) from HS7.out)
     have HT1:=box (show SegStep w0 r F (.slice (some ⟨b,0,none⟩) R.cnt cap) (w5.setCell ⟨r,4,none⟩ (.int .i64 ((R.firsts i).fin:Int))).drew F4 (.slice (some ⟨b,0,none⟩) i cap) from HT7.out)
     have HF1:=HF0
     clear d0 d3 d2 d4 f4 dlt dp S0 S1 HS7 HT7 hHeld hHeld2
     obtain⟨wq,hwq⟩:∃x,(w5.setCell ⟨r,4,none⟩ (.int .i64 ((R.firsts i).fin:Int))).drew=x:=⟨_,rfl⟩
     rw[hwq]at HS1 HT1
     go_upto_region 20 with fail
     (try rw[hwq])
     clear hwq
     have hlp:=HF1.out.2.2.1
     have hjf1:=HF1.out.2.2.2
     have hs1:(R.firsts i).start≤j:=hjs
     have hok1:=HF1.out.1
     have hle1:=hok1.le
     have q1:=(HB.out _ _ _ HT1.out).1
     have q2:=(HB.out _ _ _ HT1.out).2
     have br:wq.cell? ⟨w.heap.size,0,none⟩=some (ptrTo r):=cell_of q1 0
     have ba:wq.cell? ⟨w.heap.size+1,0,none⟩=some (.int .i64 (j:Int)):=cell_of q2 0
     have blr:=heap_lt q1
     have bla:=heap_lt q2
     obtain⟨c0,c1,c2,c3,c4,c5⟩:=HS1.out.row.cells
     have hlt:=heap_lt HS1.out.row.at_
     clear q1 q2
     by_cases h3:j<(R.firsts i).fin
     ·have t3:decide (j<(R.firsts i).fin)=true:=decide_eq_true h3
      have h0:0<(R.firsts i).cnt:=by
       rcases Nat.eq_zero_or_pos (R.firsts i).cnt with h0|h0
       ·have:=hok1.none h0;omega
       ·exact h0
      go_upto_region 21 with (first|go_quiet (fail)|fail)
      have HS2:=box (HS1.out.drew ((Calm.refl wq).drewN nq))
      have HT2:=box (HT1.out.calm ((Calm.refl wq).drewN nq))
      clear br ba blr bla c0 c1 c2 c3 c4 c5 hlt
      generalize wq.drewN nq=wp at HS2 HT2 ⊢
      have q1:=(HB.out _ _ _ HT2.out).1
      have q2:=(HB.out _ _ _ HT2.out).2
      have br:wp.cell? ⟨w.heap.size,0,none⟩=some (ptrTo r):=cell_of q1 0
      have ba:wp.cell? ⟨w.heap.size+1,0,none⟩=some (.int .i64 (j:Int)):=cell_of q2 0
      have blr:=heap_lt q1
      have bla:=heap_lt q2
      obtain⟨c0,c1,c2,c3,c4,c5⟩:=HS2.out.row.cells
      have hlt:=heap_lt HS2.out.row.at_
      clear q1 q2
      obtain⟨g1,cp1,hv1,hcp1,hg1,hc1⟩:=last_cell HS2.out.row h0
      rw[hv1]at c3
      clear hv1
      have hlast1:=hok1.least h0
      have hfew1:=hok1.few
      have hname:=box (fun (W':World) (hc:Calm wp W')=>name_any (R.firsts i).lastp W' (HS2.out.row.calm hc) hlast1 (tab_calm HS2.out.tab' hc))
      have hcut:=box (fun (W':World) (hc:Calm wp W')=>Cut_ok (nameB (R.firsts i).head (R.firsts i).lastp) ((j:Int)-(R.firsts i).lastp) W' (HS2.out.disk.calm hc) hn)
      have hK:=box (fun (W':World) (F':Nat→Prop) (v':Value) (hs:SegStep w0 r F (.slice (some ⟨b,0,none⟩) R.cnt cap) W' F' v') (hr:RowAt W' r p (R.firsts i) (.slice (some ⟨b,0,none⟩) i cap))=>(show W'.cell? ⟨w.heap.size,0,none⟩=some (ptrTo r)∧W'.cell? ⟨w.heap.size+1,0,none⟩=some (.int .i64 (j:Int))∧W'.cell? ⟨r,0,none⟩=some (ptrTo p) from
       ⟨cell_of (HB.out _ _ _ hs).1 0,cell_of (HB.out _ _ _ hs).2 0,hr.cells.1⟩))
      have hokj:=box (hok1.fined (j:=j) hs1 hlp hjf1)
      have hokF:=box (hok1.ends (k:=j) hs1 hlp hjf1)
      have k1:IntKind.i64.wrap (((R.firsts i).cnt:Int)-1)=(((R.firsts i).cnt-1:Nat):Int):=by rw[IntWalk.i64_in _ (by omega)];omega
      have hcutB:∀c6 D6,D4.cut (nameB (R.firsts i).head (R.firsts i).lastp) ((j:Int)-(R.firsts i).lastp)=(c6,D6)→cutD D R j=if c6≠0 then (c6,D6,R.firsts i) else (0,D6,(R.firsts i).ends j):=fun c6 D6 h=>by
       rw[Hr0.out,HA.out,if_neg (fun h=>h rfl)]
       unfold cutB
       rw[if_pos (by simp only;omega)]
       simp only[h,Int.toNat_natCast]
      have HcB:=box hcutB
      obtain⟨m1,hm1⟩:∃m,(R.firsts i).cnt-1=m:=⟨_,rfl⟩
      rw[hm1]at hc1 k1
      have hmn1:m1<(R.firsts i).cnt:=by omega
      obtain⟨lp,hlpe⟩:∃lp,(R.firsts i).lastp=lp:=⟨_,rfl⟩
      rw[hlpe]at hc1 hname hcut hlp HcB
      have k2:IntKind.i64.wrap ((j:Int)-lp)=(j:Int)-lp:=IntWalk.i64_in _ (by omega)
      clear hcutB hm1 hlpe hlast1 hfew1
      go_upto_region 22 with (first|go_quiet (fail)|fail)
      have hCq:Calm wp (wp.drewN nq):=(Calm.refl wp).drewN nq
      have kq0:(wp.drewN nq).cell? ⟨w.heap.size,0,none⟩=some (ptrTo r):=br
      have kq1:(wp.drewN nq).cell? ⟨w.heap.size+1,0,none⟩=some (.int .i64 (j:Int)):=ba
      have kq2:(wp.drewN nq).cell? ⟨r,0,none⟩=some (ptrTo p):=c0
      have kl0:w.heap.size<(wp.drewN nq).heap.size:=blr
      have kl1:w.heap.size+1<(wp.drewN nq).heap.size:=bla
      have kl2:r<(wp.drewN nq).heap.size:=hlt
      clear br ba blr bla c0 c1 c2 c3 c4 c5 hlt hc1 k1
      generalize wp.drewN nq=wt at hCq kq0 kq1 kq2 kl0 kl1 kl2 ⊢
      go_region_held3 (fun w'=>w'.cell? ⟨w.heap.size,0,none⟩=some (ptrTo r)∧w'.cell? ⟨w.heap.size+1,0,none⟩=some (.int .i64 (j:Int))∧w'.cell? ⟨r,0,none⟩=some (ptrTo p)) (first
       | go_keep
       | exact hK.out _ _ _ ((HT2.out.calm (by exact cm)).trans (SegStep.of_disk hs6)) ((HS2.out.row.calm (by exact cm)).step (HS2.out.disk.calm (by exact cm)) hs6)
       | exact hK.out _ _ _ (HT2.out.calm (by exact cm)) (HS2.out.row.calm (by exact cm))) (first
       | (go_at_call 90;refine(hname.out _ (by exact cm)).mono ?_;rintro e w5 ⟨rfl,hc5⟩)
       | (go_at_call 103;refine(hcut.out _ (by exact cm)).mono ?_;rintro e w6 ⟨rfl,F6,hd6,hs6⟩))
      have HC5:=box (show Calm wp w5 by exact cm)
      have hS6:=(HS2.out.drew HC5.out).disked hd6 hs6
      obtain⟨⟨c6,D6⟩,hr6⟩:∃x,D4.cut (nameB (R.firsts i).head lp) ((j:Int)-lp)=x:=⟨_,rfl⟩
      have hp6:=HcB.out c6 D6 hr6
      rw[hr6]at hS6 ⊢
      simp only at hS6 ⊢
      have Hp6:=box hp6
      have HS6:=box hS6.1
      have HT6:=box (HT2.out.trans (SegStep.trans (SegStep.of_calm HC5.out) hS6.2))
      clear hS6 hd6 hs6 hr6 hp6 hc5 hname hcut hCq kq0 kq1 kq2 kl0 kl1 kl2
      rcases err_cases c6 with rfl|⟨y1,y2,y3⟩
      ·have q1:=(HB.out _ _ _ HT6.out).1
       have q2:=(HB.out _ _ _ HT6.out).2
       have br:w6.cell? ⟨w.heap.size,0,none⟩=some (ptrTo r):=cell_of q1 0
       have ba:w6.cell? ⟨w.heap.size+1,0,none⟩=some (.int .i64 (j:Int)):=cell_of q2 0
       have blr:=heap_lt q1
       have bla:=heap_lt q2
       have e4:=HS6.out.row.cells.2.2.2.2.1
       have f4:=free_of HS6.out.row.at_ 4
       have elt:=heap_lt HS6.out.row.at_
       have hS7:=HS6.out.set (R':={ R.firsts i with fin:=j }) 4 (.int .i64 (j:Int)) rfl ⟨rfl,rfl⟩ hokj.out
       have HS7:=box hS7.1
       have HT7:=box (HT6.out.trans hS7.2)
       clear q1 q2 hS7
       go_upto_region 26 with fail
       obtain⟨ws,hws⟩:∃x,w6.setCell ⟨r,4,none⟩ (.int .i64 (j:Int))=x:=⟨_,rfl⟩
       rw[hws]at HS7 HT7
       rw[hws]
       clear hws br ba blr bla e4 f4 elt
       have q5:ws.cell? ⟨r,5,none⟩=some (.int .i64 (R.firsts i).synced):=HS7.out.row.cells.2.2.2.2.2
       have q4:ws.cell? ⟨r,4,none⟩=some (.int .i64 (j:Int)):=HS7.out.row.cells.2.2.2.2.1
       have qb:ws.cell? ⟨w.heap.size,0,none⟩=some (ptrTo r):=cell_of (HB.out _ _ _ HT7.out).1 0
       have ql:=heap_lt HS7.out.row.at_
       have qf:=free_of HS7.out.row.at_ 5
       have hg5:(ws.drew.setCell ⟨r,5,none⟩ (.int .i64 ((min (R.firsts i).synced j:Nat):Int))).cell? ⟨w.heap.size,0,none⟩=some (ptrTo r)∧(ws.drew.setCell ⟨r,5,none⟩ (.int .i64 ((min (R.firsts i).synced j:Nat):Int))).cell? ⟨r,4,none⟩=some (.int .i64 j):=by
        have e1:ws.drew.heap[r]? = some (.cells (rowCells p ({ R.firsts i with fin:=j }) (.slice (some ⟨b,0,none⟩) i cap)) 128 (0,0)):=HS7.out.row.at_
        have e2:ws.drew.heap[w.heap.size]? = some (.cells #[ptrTo r] 104 (0,0)):=(HB.out _ _ _ HT7.out).1
        exact⟨cell_of ((heap_set_other (by omega) 5 _).trans e2) 0,cell_of (heap_set e1 5 _) 4⟩
       have hS5:=HS7.out.drew ((Calm.refl ws).drew)
       have hS6:=hS5.set (R':=(R.firsts i).ends j) 5 (.int .i64 ((min (R.firsts i).synced j:Nat):Int)) rfl ⟨rfl,rfl⟩ hokF.out
       have HS6:=box hS6.1
       have HT6:=box (HT7.out.trans (SegStep.trans (SegStep.of_calm ((Calm.refl ws).drew)) hS6.2))
       have Hg5:=box hg5
       have hmin:min ((R.firsts i).synced:Int) (j:Int)=((min (R.firsts i).synced j:Nat):Int):=by omega
       clear hS5 hS6 hg5
       have hfin:=(show cutD D R j=(0,D6,(R.firsts i).ends j) by rw[Hp6.out];simp)
       refine wp_region_held_drew (S:=fun W=>Box (W.cell? ⟨w.heap.size,0,none⟩=some (ptrTo r))∧Box (W.cell? ⟨r,4,none⟩=some (.int .i64 j))) (by kernel_rfl) ⟨box qb,box q4⟩ (fun hHeld=>?_)
       (refine tkl 0 ?_;refine tkl 1 ?_)
       (refine tk 2 ?_;refine tk 3 ?_)
       (refine tkl 5 ?_)
       (refine tk 6 ?_;refine tk 7 ?_)
       (refine tkl 8 ?_)
       refine wpAnyH_ready (rs:=[4]) (by kernel_rfl) (by simp) ?_
       refine AllReadyH.cons rfl (fun K hK=>?_) AllReadyH.nil
       rw[if_pos (by rfl)]
       go_simp
       refine hK.out _ _ ⟨box qb,box q4⟩ (fun hHeld2=>?_)
       clear hK K
       try simp only[List.getElem_toArray,List.getElem_cons_succ,List.getElem_cons_zero,Act.put,List.setIfInBounds_toArray,List.set_cons_zero,List.set_cons_succ]
       (refine tk 9 ?_;refine tk 10 ?_;refine tk 11 ?_)
       refine wpAnyH_ready (rs:=[12]) (by kernel_rfl) (by simp) ?_
       refine AllReadyH.cons rfl (fun K hK=>?_) AllReadyH.nil
       rw[if_pos (by rfl)]
       go_simp
       refine hK.out _ _ ⟨box Hg5.out.1,box Hg5.out.2⟩ (fun _=>?_)
       clear hK K
       try simp only[List.getElem_toArray,List.getElem_cons_succ,List.getElem_cons_zero,Act.put,List.setIfInBounds_toArray,List.set_cons_zero,List.set_cons_succ]
       refine wpAnyH_done (by kernel_rfl) ?_ _
       go_wp2_with fail
       go_ret
       exact⟨_,_,by rw[hfin];rfl,by rw[hfin];exact HS6.out,(SegStep.of_calm HC0.out).trans HT6.out⟩
      ·go_wp2_with fail
       go_ret
       have hr:cutD D R j=(c6,D6,R.firsts i):=by rw[Hp6.out,if_pos y1.out]
       exact⟨F6,_,by rw[hr];rfl,by rw[hr];exact HS6.out,(SegStep.of_calm HC0.out).trans HT6.out⟩
     ·have t3:decide (j<(R.firsts i).fin)=false:=decide_eq_false h3
      go_upto_region 26 with (first|go_quiet (fail)|fail)
      have f5:=free_of HS1.out.row.at_ 5
      have q5:(wq.drewN nq).cell? ⟨r,5,none⟩=some (.int .i64 (R.firsts i).synced):=c5
      have q4:(wq.drewN nq).cell? ⟨r,4,none⟩=some (.int .i64 (R.firsts i).fin):=c4
      have qb:(wq.drewN nq).cell? ⟨w.heap.size,0,none⟩=some (ptrTo r):=br
      have ql:r<(wq.drewN nq).heap.size:=hlt
      have qf:(wq.drewN nq).frozen? ⟨r,5,none⟩=false:=f5
      have HS2:=box (HS1.out.drew ((Calm.refl wq).drewN nq))
      have HT2:=box (HT1.out.calm ((Calm.refl wq).drewN nq))
      clear br ba blr bla c0 c1 c2 c3 c4 c5 hlt f5
      generalize wq.drewN nq=wr at HS2 HT2 q5 q4 qb ql qf ⊢
      have hg5:(wr.drew.setCell ⟨r,5,none⟩ (.int .i64 ((min (R.firsts i).synced (R.firsts i).fin:Nat):Int))).cell? ⟨w.heap.size,0,none⟩=some (ptrTo r)∧(wr.drew.setCell ⟨r,5,none⟩ (.int .i64 ((min (R.firsts i).synced (R.firsts i).fin:Nat):Int))).cell? ⟨r,4,none⟩=some (.int .i64 (R.firsts i).fin):=by
       have e1:wr.drew.heap[r]? = some (.cells (rowCells p (R.firsts i) (.slice (some ⟨b,0,none⟩) i cap)) 128 (0,0)):=HS2.out.row.at_
       have e2:wr.drew.heap[w.heap.size]? = some (.cells #[ptrTo r] 104 (0,0)):=(HB.out _ _ _ HT2.out).1
       exact⟨cell_of ((heap_set_other (by omega) 5 _).trans e2) 0,cell_of (heap_set e1 5 _) 4⟩
      have hS5:=HS2.out.drew ((Calm.refl wr).drew)
      have hS6:=hS5.set (R':=(R.firsts i).ends (R.firsts i).fin) 5 (.int .i64 ((min (R.firsts i).synced (R.firsts i).fin:Nat):Int)) rfl ⟨rfl,rfl⟩ (hok1.ends (by omega) (by have:=hok1.fin;omega) (Nat.le_refl _))
      have HS6:=box hS6.1
      have HT6:=box (HT2.out.trans (SegStep.trans (SegStep.of_calm ((Calm.refl wr).drew)) hS6.2))
      have Hg5:=box hg5
      have hmin:min ((R.firsts i).synced:Int) ((R.firsts i).fin:Int)=((min (R.firsts i).synced (R.firsts i).fin:Nat):Int):=by omega
      clear hS5 hS6 hg5
      have hfin:=(show cutD D R j=(0,D4,(R.firsts i).ends (R.firsts i).fin) by rw[Hr0.out,HA.out,if_neg (fun h=>h rfl)];unfold cutB;rw[if_neg (by simp only;omega)])
      refine wp_region_held_drew (S:=fun W=>Box (W.cell? ⟨w.heap.size,0,none⟩=some (ptrTo r))∧Box (W.cell? ⟨r,4,none⟩=some (.int .i64 (R.firsts i).fin))) (by kernel_rfl) ⟨box qb,box q4⟩ (fun hHeld=>?_)
      (refine tkl 0 ?_;refine tkl 1 ?_)
      (refine tk 2 ?_;refine tk 3 ?_)
      (refine tkl 5 ?_)
      (refine tk 6 ?_;refine tk 7 ?_)
      (refine tkl 8 ?_)
      refine wpAnyH_ready (rs:=[4]) (by kernel_rfl) (by simp) ?_
      refine AllReadyH.cons rfl (fun K hK=>?_) AllReadyH.nil
      rw[if_pos (by rfl)]
      go_simp
      refine hK.out _ _ ⟨box qb,box q4⟩ (fun hHeld2=>?_)
      clear hK K
      try simp only[List.getElem_toArray,List.getElem_cons_succ,List.getElem_cons_zero,Act.put,List.setIfInBounds_toArray,List.set_cons_zero,List.set_cons_succ]
      (refine tk 9 ?_;refine tk 10 ?_;refine tk 11 ?_)
      refine wpAnyH_ready (rs:=[12]) (by kernel_rfl) (by simp) ?_
      refine AllReadyH.cons rfl (fun K hK=>?_) AllReadyH.nil
      rw[if_pos (by rfl)]
      go_simp
      refine hK.out _ _ ⟨box Hg5.out.1,box Hg5.out.2⟩ (fun _=>?_)
      clear hK K
      try simp only[List.getElem_toArray,List.getElem_cons_succ,List.getElem_cons_zero,Act.put,List.setIfInBounds_toArray,List.set_cons_zero,List.set_cons_succ]
      refine wpAnyH_done (by kernel_rfl) ?_ _
      go_wp2_with fail
      go_ret
      exact⟨_,_,by rw[hfin];rfl,by rw[hfin];exact HS6.out,(SegStep.of_calm HC0.out).trans HT6.out⟩
    ·go_wp2_with fail
     go_ret
     have hr:cutD D R j=(c4',D4,R):=by
      rw[Hr0.out]
      have h:=HA1.out
      rw[if_pos x1.out]at h
      rw[h,if_pos x1.out]
     exact⟨F4,_,by rw[hr];rfl,by rw[hr];exact HS4.out,(SegStep.of_calm HC0.out).trans HT4.out⟩
end
end Go.Proofs.YtiahjipoofeliaaGreatDoor.sg

namespace Go.Proofs.YtiahjipoofeliaaGreatDoor.sg
open dk
section
variable {D E:DiskS} {R:RowS} {b:List UInt8} {c m:Nat}
theorem turn_bytes {n:ByteArray} {g:FileS→FileS} (hg:∀x,(g x).name=x.name∧(g x).now=x.now) (s:ByteArray):(D.turn n g).bytes s=D.bytes s:=by
 unfold DiskS.bytes DiskS.find DiskS.turn
 simp only
 rw[List.find?_map,Option.map_map]
 have h1:((fun f:FileS=>decide (f.name=s)) ∘ fun x=>if x.name=n then g x else x)=fun f:FileS=>decide (f.name=s):=by
  funext x
  simp only[Function.comp]
  split<;>simp [hg]
 have h2:((fun f:FileS=>f.now) ∘ fun x=>if x.name=n then g x else x)=fun f:FileS=>f.now:=by
  funext x
  simp only[Function.comp]
  split<;>simp [hg]
 rw[h1]
 cases D.files.find? (fun f=>decide (f.name=s)) with
 | none=>rfl
 | some f=>simp only[Option.map_some];exact congrArg some (congrFun h2 f)
theorem last_bytes (n s:ByteArray):(D.last n).bytes s=D.bytes s:=by
 unfold DiskS.last
 split
 ·rfl
 ·exact turn_bytes (D:=D) (n:=n) (g:=fun f=>{ f with image:=f.now }) (fun _=>⟨rfl,rfl⟩) s
theorem last_same (n:ByteArray):(D.last n).left=D.left∧(D.last n).down=D.down∧(D.last n).cap=D.cap∧(D.last n).size=D.size:=by
 unfold DiskS.last
 split
 ·exact⟨rfl,rfl,rfl,rfl⟩
 ·exact⟨rfl,rfl,rfl,total_map_eq (fun x _=>by split<;>rfl)⟩
theorem lasts_same (l:List ByteArray):∀D:DiskS,(∀s,(l.foldl DiskS.last D).bytes s=D.bytes s)∧(l.foldl DiskS.last D).left=D.left∧(l.foldl DiskS.last D).down=D.down∧(l.foldl DiskS.last D).cap=D.cap∧(l.foldl DiskS.last D).size=D.size:=by
 induction l with
 | nil=>exact fun _=>⟨fun _=>rfl,rfl,rfl,rfl,rfl⟩
 | cons n l ih =>
  intro D
  obtain⟨h1,h2,h3,h4,h5⟩:=ih (D.last n)
  obtain⟨k2,k3,k4,k5⟩:=last_same (D:=D) n
  exact⟨fun s=>(h1 s).trans (last_bytes n s),h2.trans k2,h3.trans k3,h4.trans k4,h5.trans k5⟩
theorem bars_ok (ha:Alive D) {l:List ByteArray} (hl:∀n∈l,D.has n=true):D.bars l=0:=by
 unfold DiskS.bars
 rw[if_neg (by rw[ha.down];decide),if_pos (List.all_eq_true.2 hl)]
theorem Able.sync (h:Able D c m) {l:List ByteArray} (hl:∀n∈l,D.has n=true):∃E,D.sync l=(0,E)∧E=l.foldl DiskS.last D∧(∀s,E.bytes s=D.bytes s)∧Able E c m:=by
 obtain⟨h1,h2,h3,h4,h5⟩:=lasts_same l D
 refine⟨_,by unfold DiskS.sync;rw[if_neg (by rw[bars_ok h.alive hl];exact fun h=>h rfl),h.alive.doing],rfl,h1,⟨⟨h2.trans h.alive.left,h3.trans h.alive.down⟩,h4.trans h.cap,by rw[h5];exact h.size,?_,?_⟩⟩
 ·rw[lasts_names];exact h.few
 ·rw[lasts_names];exact h.names
theorem Holds.has (h:Holds D R b) {k:Nat} (hk:k∈R.places):D.has (nameB R.head k)=true:=by
 obtain⟨i,hi,rfl⟩:=mem_plc.1 hk
 rw[bytes_has,h.segs i hi];rfl
theorem Holds.sync (h:Holds D R b) (ha:Able D c m) (hsy:R.synced≤R.fin):∃E,syncD D R=(0,E,R.clean)∧Holds E R.clean b∧Able E c m∧(∀s,E.bytes s=D.bytes s):=by
 by_cases h0:R.dirty=[]
 ·have he:R.synced=R.fin:=by
   by_cases h1:R.synced<R.fin
   ·exfalso
    have h2:0<R.cnt:=by
     rcases Nat.eq_zero_or_pos R.cnt with h2|h2
     ·have:=h.ok.none h2;omega
     ·exact h2
    have h3:=h.ok.fin h2
    have h4:=RowOk.stop (R:=R) h2
    have h5:R.lastp∈R.dirty:=by
     unfold RowS.dirty
     rw[List.mem_filter]
     refine⟨mem_plc.2 ⟨R.cnt-1,by omega,rfl⟩,?_⟩
     rw[Bool.and_eq_true,decide_eq_true_eq,decide_eq_true_eq];omega
    rw[h0]at h5;cases h5
   ·omega
  have hc:R.clean=R:=by cases R;simp only at he;subst he;rfl
  refine⟨D,?_,by rw[hc];exact h,ha,fun _=>rfl⟩
  unfold syncD;rw[if_neg (by rw[ha.alive.down];decide),if_pos h0,hc]
 ·obtain⟨E,h1,_,h2,h3⟩:=ha.sync (l:=R.dirty.map (nameB R.head)) (fun n hn=>by
   obtain⟨k,hk,rfl⟩:=List.mem_map.1 hn
   exact h.has (List.mem_filter.1 hk).1)
  refine⟨E,?_,⟨h.ok.clean,h.size,fun i hi=>(h2 _).trans (h.segs i hi),fun k hk hh=>h.only k hk ?_⟩,h3,h2⟩
  ·unfold syncD;rw[if_neg (by rw[ha.alive.down];decide),if_neg h0,h1];rfl
  ·have hh:E.has (nameB R.head k)=true:=hh
   rw[bytes_has]at hh ⊢;rwa[h2]at hh
theorem drop_bytes (n s:ByteArray):(D.drop n).bytes s=if s=n then none else D.bytes s:=by
 by_cases h:s=n
 ·subst h
  rw[if_pos rfl]
  unfold DiskS.bytes
  rw[drop_gone];rfl
 ·rw[if_neg h]
  unfold DiskS.bytes
  rw[drop_find h]
theorem drop_same (n:ByteArray):(D.drop n).left=D.left∧(D.drop n).down=D.down∧(D.drop n).cap=D.cap∧(D.drop n).size≤D.size:=by
 unfold DiskS.drop
 split
 ·exact⟨rfl,rfl,rfl,Nat.le_refl _⟩
 ·exact⟨rfl,rfl,rfl,total_filter_le _ _⟩
theorem drops_same (l:List ByteArray):∀D:DiskS,((∀s,s∈l→(l.foldl DiskS.drop D).bytes s=none)∧∀s,¬s∈l→(l.foldl DiskS.drop D).bytes s=D.bytes s)∧(l.foldl DiskS.drop D).left=D.left∧(l.foldl DiskS.drop D).down=D.down∧(l.foldl DiskS.drop D).cap=D.cap∧(l.foldl DiskS.drop D).size≤D.size:=by
 induction l with
 | nil=>exact fun _=>⟨⟨fun _ h=>(by cases h),fun _ _=>rfl⟩,rfl,rfl,rfl,Nat.le_refl _⟩
 | cons n l ih =>
  intro D
  obtain⟨h1,h2,h3,h4,h5⟩:=ih (D.drop n)
  obtain⟨k2,k3,k4,k5⟩:=drop_same (D:=D) n
  refine⟨⟨fun s hs=>?_,fun s hs=>?_⟩,h2.trans k2,h3.trans k3,h4.trans k4,Nat.le_trans h5 k5⟩
  ·rw[List.foldl_cons]
   by_cases e1:s∈l
   ·exact h1.1 s e1
   ·rw[h1.2 s e1,drop_bytes,if_pos ((List.mem_cons.1 hs).resolve_right e1)]
  ·rw[List.foldl_cons,h1.2 s (fun h=>hs (List.mem_cons_of_mem _ h)),drop_bytes,if_neg (fun h=>hs (by rw[h];exact List.mem_cons_self ..))]
theorem Able.delete (h:Able D c m) {l:List ByteArray} (hl:∀n∈l,D.has n=true):∃E,D.delete l=(0,E)∧E=l.foldl DiskS.drop D∧((∀s,s∈l→E.bytes s=none)∧∀s,¬s∈l→E.bytes s=D.bytes s)∧Able E c m:=by
 obtain⟨h1,h2,h3,h4,h5⟩:=drops_same l D
 refine⟨_,by unfold DiskS.delete;rw[if_neg (by rw[bars_ok h.alive hl];exact fun h=>h rfl),h.alive.doing],rfl,h1,⟨⟨h2.trans h.alive.left,h3.trans h.alive.down⟩,h4.trans h.cap,Nat.le_trans h5 h.size,?_,fun s hs=>h.names s ((drops_names l D).subset hs)⟩⟩
 exact Nat.le_trans (drops_names l D).length_le h.few
theorem drops_form (l:List ByteArray):∀D:DiskS,dk.Form D→dk.Form (l.foldl DiskS.drop D):=by
 induction l with
 | nil=>exact fun _ h=>h
 | cons n l ih=>exact fun D h=>ih _ (h.drop n)
theorem Able.cut (h:Able D c m) (hF:dk.Form D) {n s:ByteArray} (hb:D.bytes n=some s) (k:Nat) (hk:k≤s.size):∃E,D.cut n k=(0,E)∧But D E n (s.extract 0 k)∧Able E c m:=by
 obtain⟨f,hf,rfl⟩:=bytes_some hb
 obtain⟨k2,k3,k4,k5⟩:=last_same (D:=D.turn n fun f=>{ f with now:=f.now.extract 0 k }) n
 have hsz:(D.turn n fun f=>{ f with now:=f.now.extract 0 k }).size≤D.size:=total_map_le (fun x _=>by
  split
  ·show (x.now.extract 0 k).size≤_
   rw[ByteArray.size_extract];omega
  ·exact Nat.le_refl _)
 refine⟨(D.turn n fun f=>{ f with now:=f.now.extract 0 k }).last n,?_,⟨⟨k2.trans h.alive.left,k3.trans h.alive.down⟩,k4,?_,fun s hs=>?_⟩,⟨⟨k2.trans h.alive.left,k3.trans h.alive.down⟩,k4.trans h.cap,by rw[k5];exact Nat.le_trans hsz h.size,?_,?_⟩⟩
 ·unfold DiskS.cut
  rw[h.alive.down,hf]
  simp only[Int.toNat_natCast]
  rw[if_neg (by decide),if_neg (by omega),h.alive.doing]
 ·rw[last_bytes]
  show ((D.turn n _).find n).map _=_
  rw[find_turn_same hF hf (fun f=>{ f with now:=f.now.extract 0 k }) (fun _=>rfl)];rfl
 ·rw[last_bytes]
  show ((D.turn n _).find s).map _=_
  rw[find_turn_other (Ne.symm hs) (fun f=>{ f with now:=f.now.extract 0 k }) (fun _=>rfl)];rfl
 ·rw[last_names,turn_names (g:=fun f=>{ f with now:=f.now.extract 0 k }) (fun _=>rfl)];exact h.few
 ·rw[last_names,turn_names (g:=fun f=>{ f with now:=f.now.extract 0 k }) (fun _=>rfl)];exact h.names
theorem extract_list (s:ByteArray) (i j:Nat):(s.extract i j).data.toList=(s.data.toList.take j).drop i:=by
 rw[ByteArray.data_extract,Array.toList_extract,List.extract_eq_take_drop,List.drop_take]
theorem bA_extract (l:List UInt8) (k:Nat):(bA l).extract 0 k=bA (l.take k):=by
 refine ba_ext ?_
 rw[extract_list,bA_list,bA_list];rfl
theorem name_mem {head:ByteArray} {l:List Nat} (hl:∀k∈l,k<100000000) {k:Nat} (hk:k<100000000):nameB head k∈l.map (nameB head)↔k∈l:=by
 constructor
 ·intro h
  obtain⟨j,hj,e⟩:=List.mem_map.1 h
  rw[←name_inj (hl j hj) hk e];exact hj
 ·exact fun h=>List.mem_map.2 ⟨k,h,rfl⟩
theorem RowOk.placesLt (h:RowOk R):∀k∈R.places,k<100000000:=fun k hk=>by
 obtain⟨i,hi,rfl⟩:=mem_plc.1 hk
 have:=(h.place hi).2;omega
theorem seg_take (b:List UInt8) (size i j:Nat) (h:i * size+size≤j):segL (b.take j) size i=segL b size i:=by
 unfold segL
 rw[List.drop_take,List.take_take]
 congr 1
 omega
theorem Holds.cutA (h:Holds D R b) (ha:Able D c m) (hF:dk.Form D) (j:Int):∃E,cutA D R j=(0,E,R.cutR j)∧Able E c m∧dk.Form E∧Only D E R.head∧(R.cutR j).head=R.head∧(R.cutR j).size=R.size ∧
  (RowOk (R.cutR j)→Holds E (R.cutR j) (b.take ((R.cutR j).fin-R.start))):=by
 rcases keepN_cases R j with ⟨_,e⟩|⟨_,h3,h4,_⟩
 ·have hc:R.cutR j=R:=by unfold RowS.cutR;rw[if_pos e]
  rw[hc]
  refine⟨D,by unfold sg.cutA;rw[if_pos e],ha,hF,Only.refl _ _,rfl,rfl,fun _=>?_⟩
  rw[List.take_of_length_le (by have:=h.size;omega)];exact h
 ·have hc:R.cutR j=R.firsts (R.keepN j):=by unfold RowS.cutR;rw[if_neg (by omega)]
  rw[hc]
  obtain⟨i,hi⟩:∃i,R.keepN j=i:=⟨_,rfl⟩
  rw[hi]at h3 h4 hc ⊢
  have hpl:=h.ok.placesLt
  obtain⟨E,h1,h2,hb,h5⟩:=ha.delete (l:=(R.places.drop i).map (nameB R.head)) (fun n hn=>by
   obtain⟨k,hk,rfl⟩:=List.mem_map.1 hn
   exact h.has (List.mem_of_mem_drop hk))
  have hdr:∀k∈R.places.drop i,k<100000000:=fun k hk=>hpl k (List.mem_of_mem_drop hk)
  obtain⟨k1,k2,k3⟩:=h.ok.firsts h4 h3
  have hsz:=h.ok.size
  refine⟨E,by unfold sg.cutA;rw[if_neg (by omega),hi,h1];rfl,h5,by rw[h2];exact drops_form _ _ hF,fun n hn=>?_,rfl,rfl,fun hok=>⟨hok,?_,fun q hq=>?_,fun k hk hh=>?_⟩⟩
  ·refine hb.2 _ (fun hm=>?_)
   obtain⟨k,hk,rfl⟩:=List.mem_map.1 hm
   exact hn k (hdr k hk) rfl
  ·have hs:=h.size
   show (R.firsts i).fin=R.start+(b.take ((R.firsts i).fin-R.start)).length
   rw[k2,List.length_take]
   have:=(h.ok.fin (by omega)).1
   have:=(h.ok.place h3).1
   omega
  ·have hq:q<i:=hq
   have hqp:=(h.ok.place (k:=q) (by omega)).2
   have hlt:=plc_lt (size:=R.size) hq
   show E.bytes (nameB R.head (R.start+q * R.size))=some (bA (segL (b.take ((R.firsts i).fin-R.start)) R.size q))
   rw[k2,hb.2,h.segs q (by omega),seg_take _ _ _ _ (by omega)]
   rw[name_mem hdr (by omega)]
   unfold RowS.places
   rw[plc_drop]
   intro hm
   obtain⟨t,_,ht⟩:=mem_plc.1 hm
   have:i * R.size≤i * R.size+t * R.size:=Nat.le_add_right _ _
   omega
  ·have hh:E.has (nameB R.head k)=true:=hh
   show k∈plc R.start R.size i
   rw[bytes_has]at hh
   by_cases hm:nameB R.head k∈(R.places.drop i).map (nameB R.head)
   ·rw[hb.1 _ hm]at hh;cases hh
   ·rw[hb.2 _ hm,←bytes_has]at hh
    have h6:=h.only k hk hh
    rw[name_mem hdr hk]at hm
    have h7:k∈R.places.take i++R.places.drop i:=by rw[List.take_append_drop];exact h6
    rcases List.mem_append.1 h7 with h8|h8
    ·unfold RowS.places at h8
     rwa[plc_take _ _ _ _ (by omega)]at h8
    ·exact absurd h8 hm
theorem Holds.cut (h:Holds D R b) (ha:Able D c m) (hF:dk.Form D) {j:Nat} (h1:R.start≤j) (h2:j≤R.fin) :
  ∃E R',cutD D R j=(0,E,R')∧Holds E R' (b.take (j-R.start))∧Able E c m∧Only D E R.head∧Tight R'∧R'.head=R.head∧R'.size=R.size∧R'.start=R.start∧R'.synced=min R.synced j∧R'.fin=j∧(R'.cnt=0↔R.cnt=0):=by
 obtain⟨c1,c2,c3,c4⟩:=cut_facts h.ok h1 h2
 obtain⟨E,e1,e2,e3,e4,e5,e6,e7⟩:=h.cutA ha hF j
 have hH:=e7 c1
 have hsy:(R.cutR j).synced=R.synced:=by unfold RowS.cutR;split<;>rfl
 have hcz:((R.cutR j).cnt=0↔R.cnt=0):=by
  unfold RowS.cutR
  split
  ·exact Iff.rfl
  ·rename_i hne
   rcases keepN_cases R j with ⟨_,e⟩|⟨_,h3,h4,_⟩
   ·exact absurd e hne
   ·show R.keepN j=0↔_
    omega
 have hT:(R.cutR j).cnt≤1∨(R.cutR j).lastp<j:=by
  by_cases hc:(R.cutR j).cnt≤1
  ·exact .inl hc
  ·refine .inr ?_
   have hq:cutQ R j (R.cutR j).lastp=false∧R.start<(R.cutR j).lastp:=by
    have hle:(R.cutR j).cnt≤R.keepN j∧(R.cutR j).cnt≤R.cnt∧(R.cutR j).lastp=R.start+((R.cutR j).cnt-1) * R.size:=by
     unfold RowS.cutR
     split
     ·rename_i e;exact⟨by rw[e];exact Nat.le_refl _,Nat.le_refl _,rfl⟩
     ·rename_i e
      rcases keepN_cases R j with ⟨_,e'⟩|⟨_,h3,h4,_⟩
      ·exact absurd e' e
      ·exact⟨Nat.le_refl _,Nat.le_of_lt h3,rfl⟩
    obtain⟨l1,l2,l3⟩:=hle
    have hz:=h.ok.size
    have hpos:=Nat.mul_le_mul_right R.size (show 1≤(R.cutR j).cnt-1 by omega)
    refine⟨?_,by rw[l3];omega⟩
    have hg:R.places[(R.cutR j).cnt-1]'(by rw[R.length];omega)=(R.cutR j).lastp:=by rw[l3];exact plc_get _ _ _ _
    rw[keepN_eq]at l1
    rw[←hg]
    cases hf:R.places.findIdx? (cutQ R j) with
    | none =>
     rw[List.findIdx?_eq_none_iff]at hf
     exact hf _ (List.getElem_mem _)
    | some i =>
     rw[hf]at l1
     rw[List.findIdx?_eq_some_iff_getElem]at hf
     obtain⟨_,_,hx⟩:=hf
     have l1:(R.cutR j).cnt≤i:=l1
     simpa using hx ((R.cutR j).cnt-1) (by omega)
   unfold cutQ at hq
   rw[Bool.and_eq_false_iff,decide_eq_false_iff_not,decide_eq_false_iff_not]at hq
   omega
 obtain⟨R1,hR1⟩:∃R1,R.cutR j=R1:=⟨_,rfl⟩
 rw[hR1]at c1 c2 c3 c4 e1 e5 e6 hH hsy hcz hT
 have hcd:cutD D R j=cutB E R1 j:=by
  unfold cutD
  rw[if_neg (by rw[ha.alive.down];decide),if_neg (by omega),e1,if_neg (fun h=>h rfl)]
 rw[hcd]
 by_cases hj:j<R1.fin
 ·have h0:0<R1.cnt:=by
   rcases Nat.eq_zero_or_pos R1.cnt with h0|h0
   ·have:=c1.none h0;omega
   ·exact h0
  have hl:=hH.lastLen h0
  have hlp:=c1.least h0
  have hb:=hH.segs (R1.cnt-1) (by omega)
  have hle:=lastp_eq R1
  have hsz:=hH.size
  rw[←hle]at hb
  have hlen:(segL (b.take (R1.fin-R.start)) R1.size (R1.cnt-1)).length=R1.fin-R1.lastp:=by rw[seg_length];omega
  obtain⟨G,g1,g2,g3⟩:=e2.cut e3 hb (j-R1.lastp) (by rw[bA_size,hlen];omega)
  have hcast:((j-R1.lastp:Nat):Int)=(j:Int)-R1.lastp:=by omega
  rw[hcast]at g1
  refine⟨G,R1.ends j,by unfold cutB;rw[if_pos (by omega),g1,Int.toNat_natCast];rfl,⟨c1.ends (by omega) c3 (by omega),?_,fun i hi=>?_,fun k hk hh=>?_⟩,g3,e4.trans (by rw[←e5];exact but_only (by omega) g2),hT,e5,e6,c2,by show min R1.synced j=_;rw[hsy],rfl,hcz⟩
  ·show j=R1.start+(b.take (j-R.start)).length
   have hlb:(b.take (R1.fin-R.start)).length=min (R1.fin-R.start) b.length:=List.length_take
   rw[List.length_take]
   omega
  ·have hi:i<R1.cnt:=hi
   show G.bytes (nameB R1.head (R1.start+i * R1.size))=some (bA (segL (b.take (j-R.start)) R1.size i))
   have htt:b.take (j-R.start)=(b.take (R1.fin-R.start)).take (j-R.start):=by rw[List.take_take];congr 1;omega
   rw[htt]
   by_cases he:i=R1.cnt-1
   ·subst he
    rw[←hle,g2.this,bA_extract]
    congr 2
    unfold segL
    simp only[List.drop_take,List.take_take]
    congr 1
    omega
   ·have hlt:=plc_lt (size:=R1.size) (show i<R1.cnt-1 by omega)
    have hpi:=(c1.place hi).2
    have hz:=c1.size
    rw[g2.others _ (fun e=>by have:=name_inj (by omega) (by omega) e;omega),hH.segs i hi,seg_take (b.take (R1.fin-R.start)) _ _ (j-R.start) (by omega)]
  ·have hh:G.has (nameB R1.head k)=true:=hh
   refine hH.only k hk ?_
   rw[bytes_has]at hh ⊢
   by_cases he:k=R1.lastp
   ·rw[he,hb];rfl
   ·rwa[g2.others _ (fun e=>he (name_inj hk (by omega) e))]at hh
 ·have hje:R1.fin=j:=by omega
  refine⟨E,R1.ends R1.fin,by unfold cutB;rw[if_neg (by omega)],⟨c1.ends (by omega) (by omega) (Nat.le_refl _),?_,?_,hH.only⟩,e2,e4,by rw[←hje]at hT;exact hT,e5,e6,c2,by show min R1.synced R1.fin=_;rw[hsy,hje],hje,hcz⟩
  ·rw[←hje];exact hH.size
  ·rw[←hje];exact hH.segs
end
section
variable {D E:DiskS} {R:RowS} {b:List UInt8} {c m:Nat} {head:ByteArray} {size:Nat}
theorem foldl_found (l:List ByteArray):∀x:FoundS,l.foldl (findOne D head size) x=(l.filterMap (placeOf head)).foldl (fun x k=>findStep size x (nameB head k) k (D.len (nameB head k))) x:=by
 induction l with
 | nil=>exact fun _=>rfl
 | cons n l ih =>
  intro x
  rw[List.foldl_cons,List.filterMap_cons]
  cases hp:placeOf head n with
  | none =>
   have h1:findOne D head size x n=x:=by unfold findOne;rw[hp]
   rw[h1];exact ih x
  | some k =>
   obtain⟨_,rfl⟩:=name_place hp
   have h1:findOne D head size x (nameB head k)=findStep size x (nameB head k) k (D.len (nameB head k)):=by unfold findOne;rw[hp]
   rw[h1,ih];rfl
def placesL (D:DiskS) (head:ByteArray):List Nat:=(D.names head).filterMap (placeOf head)
theorem found_places (D:DiskS) (head:ByteArray) (size:Nat):foundD D head size=(placesL D head).foldl (fun x k=>findStep size x (nameB head k) k (D.len (nameB head k))) ⟨0,0,0,true,[]⟩:=foldl_found _ _
theorem has_file {n:ByteArray}:D.has n=true↔∃f∈D.files,f.name=n:=by
 unfold DiskS.has
 constructor
 ·intro h
  cases hf:D.find n with
  | none=>rw[hf]at h;cases h
  | some f=>exact⟨f,(find_some hf).1,(find_some hf).2⟩
 ·rintro⟨f,hf,e⟩
  cases hx:D.find n with
  | none=>exact absurd e (find_none hx f hf)
  | some g=>rfl
theorem mem_names {n:ByteArray}:n∈D.names head↔D.has n=true∧Lib.hasPrefix n.data.toList head.data.toList=true:=by
 rw[has_file]
 unfold DiskS.names DiskS.namesL
 rw[List.mem_map]
 constructor
 ·rintro⟨l,hl,rfl⟩
  rw[List.mem_filter,List.mem_mergeSort,List.mem_map]at hl
  obtain⟨⟨f,hf,rfl⟩,hp⟩:=hl
  exact⟨⟨f,hf,rfl⟩,hp⟩
 ·rintro⟨⟨f,hf,rfl⟩,hp⟩
  exact⟨f.name.data.toList,by rw[List.mem_filter,List.mem_mergeSort,List.mem_map];exact⟨⟨f,hf,rfl⟩,hp⟩,rfl⟩
theorem mem_places {k:Nat}:k∈placesL D head↔k<100000000∧D.has (nameB head k)=true:=by
 unfold placesL
 rw[List.mem_filterMap]
 constructor
 ·rintro⟨n,hn,hp⟩
  obtain⟨h1,rfl⟩:=name_place hp
  exact⟨h1,(mem_names.1 hn).1⟩
 ·rintro⟨h1,h2⟩
  exact⟨_,mem_names.2 ⟨h2,name_prefix head k⟩,place_name head h1⟩
theorem append_lt (h:List UInt8) {a b:List UInt8} (hab:a<b):h++a<h++b:=by
 induction h with
 | nil=>exact hab
 | cons x h ih=>rw[List.cons_append,List.cons_append,List.cons_lt_cons_iff];exact .inr ⟨rfl,ih⟩
theorem names_pair (hF:dk.Form D) (head:ByteArray):(D.names head).Pairwise fun n s=>n.data.toList≤s.data.toList∧n≠s:=by
 have h1:=List.pairwise_mergeSort (le:=fun x y:List UInt8=>decide (x≤y)) (fun a b c h1 h2=>by simp at h1 h2 ⊢;exact List.le_trans h1 h2) (fun a b=>by simp;exact List.le_total a b) (D.files.map fun f=>f.name.data.toList)
 have h2:((D.files.map fun f=>f.name.data.toList).mergeSort (fun x y=>decide (x≤y))).Nodup:=by
  rw[(List.mergeSort_perm _ _).nodup_iff]
  have h3:(D.files.map fun f=>f.name.data.toList)=(D.files.map (·.name)).map fun n=>n.data.toList:=by rw[List.map_map];rfl
  rw[h3]
  exact List.Pairwise.map _ (fun a b h e=>h (ba_ext e)) hF.names
 unfold DiskS.names DiskS.namesL
 rw[List.pairwise_map]
 refine((h1.and h2).filter _).imp ?_
 rintro a b ⟨h3,h4⟩
 refine⟨by simpa using h3,fun e=>h4 ?_⟩
 have:=congrArg (fun n:ByteArray=>n.data.toList) e
 exact this
theorem places_rise (hF:dk.Form D) (head:ByteArray):(placesL D head).Pairwise (· < ·):=by
 unfold placesL
 rw[List.pairwise_filterMap]
 refine(names_pair hF head).imp ?_
 rintro n s ⟨h1,h2⟩ k hk j hj
 obtain⟨k1,rfl⟩:=name_place hk
 obtain⟨j1,rfl⟩:=name_place hj
 rcases Nat.lt_trichotomy k j with h|h|h
 ·exact h
 ·exact absurd (by rw[h]) h2
 ·exact absurd (append_lt head.data.toList (dL_lt h k1)) h1
theorem rising_eq:∀ {l m:List Nat},l.Pairwise (· < ·)→m.Pairwise (· < ·)→(∀k,k∈l↔k∈m)→l=m
 | [],[],_,_,_=>rfl
 | [],b :: m,_,_,h=>absurd ((h b).2 (List.mem_cons_self ..)) (by simp)
 | a :: l,[],_,_,h=>absurd ((h a).1 (List.mem_cons_self ..)) (by simp)
 | a :: l,b :: m,h1,h2,h=>by
  rw[List.pairwise_cons]at h1 h2
  have e:a=b:=by
   rcases List.mem_cons.1 ((h a).1 (List.mem_cons_self ..)) with e|e
   ·exact e
   ·rcases List.mem_cons.1 ((h b).2 (List.mem_cons_self ..)) with e2|e2
    ·exact e2.symm
    ·have:=h1.1 b e2;have:=h2.1 a e;omega
  subst e
  rw[rising_eq h1.2 h2.2 (fun k=>?_)]
  constructor
  ·intro hk
   rcases List.mem_cons.1 ((h k).1 (List.mem_cons_of_mem _ hk)) with e|e
   ·have:=h1.1 k hk;omega
   ·exact e
  ·intro hk
   rcases List.mem_cons.1 ((h k).2 (List.mem_cons_of_mem _ hk)) with e|e
   ·have:=h2.1 k hk;omega
   ·exact e
theorem plc_rise (a:Nat) {s:Nat} (hs:0<s) (c:Nat):(plc a s c).Pairwise (· < ·):=by
 unfold plc
 rw[List.pairwise_map]
 refine List.pairwise_lt_range.imp ?_
 intro i j h
 have:=plc_lt (size:=s) h
 omega
theorem Holds.placesEq (h:Holds D R b) (hF:dk.Form D):placesL D R.head=R.places:=by
 refine rising_eq (places_rise hF _) (plc_rise _ (by have:=h.ok.size;omega) _) (fun k=>?_)
 rw[mem_places]
 exact⟨fun hk=>h.only k hk.1 hk.2,fun hk=>⟨h.ok.placesLt k hk,h.has hk⟩⟩
theorem len_bytes {n s:ByteArray} (h:D.bytes n=some s):D.len n=s.size:=by
 obtain⟨f,hf,rfl⟩:=bytes_some h
 unfold DiskS.len;rw[hf]
theorem Holds.fold (h:Holds D R b):∀k,k≤R.cnt→∃wh,(plc R.start R.size k).foldl (fun x k=>findStep R.size x (nameB R.head k) k (D.len (nameB R.head k))) ⟨0,0,0,true,[]⟩=⟨if k=0 then 0 else R.start,k,if k=0 then 0 else min (R.start+k * R.size) R.fin,wh,[]⟩∧(k<R.cnt→wh=true)
 | 0,_=>⟨true,rfl,fun _=>rfl⟩
 | k+1,hk=>by
  obtain⟨wh,h1,h2⟩:=h.fold k (by omega)
  have hwh:=h2 (by omega)
  subst hwh
  have hz:=h.ok.size
  have hl:=h.lastLen (by omega)
  have hsz:=h.size
  have hfull:k * R.size≤(R.cnt-1) * R.size:=Nat.mul_le_mul_right _ (by omega)
  have hmod:(R.start+k * R.size)%R.size=0:=by rw[Nat.add_mul_mod_self_right];exact h.ok.mod
  have hlen:D.len (nameB R.head (R.start+k * R.size))=min R.size (b.length-k * R.size):=by
   rw[len_bytes (h.segs k (by omega)),bA_size,seg_length]
  have hfol:k=0∨R.start+k * R.size=if k=0 then 0 else min (R.start+k * R.size) R.fin:=by
   rcases Nat.eq_zero_or_pos k with h0|h0
   ·exact .inl h0
   ·rw[if_neg (by omega)];right;omega
  rw[plc_snoc,List.foldl_append,h1,List.foldl_cons,List.foldl_nil]
  unfold findStep
  rw[hlen,if_neg (by omega),if_neg (by
   intro hc
   rcases hc with hc|hc|hc
   ·cases hc
   ·exact hc hfol
   ·omega)]
  refine⟨decide (min R.size (b.length-k * R.size)=R.size),?_,fun hlt=>?_⟩
  ·rw[FoundS.mk.injEq]
   refine⟨?_,rfl,?_,rfl,rfl⟩
   ·show (if k=0 then R.start+k * R.size else if k=0 then 0 else R.start)=if k+1=0 then 0 else R.start
    rw[if_neg (show ¬k+1=0 by omega)]
    by_cases h0:k=0
    ·subst h0;simp
    ·rw[if_neg h0,if_neg h0]
   ·show R.start+k * R.size+min R.size (b.length-k * R.size)=if k+1=0 then 0 else min (R.start+(k+1) * R.size) R.fin
    rw[if_neg (show ¬k+1=0 by omega),Nat.succ_mul];omega
  ·have:=plc_lt (size:=R.size) (show k<R.cnt-1 by omega)
   rw[decide_eq_true_eq];omega
theorem Holds.found (h:Holds D R b) (hF:dk.Form D):∃wh,foundD D R.head R.size=⟨R.start,R.cnt,R.fin,wh,[]⟩:=by
 obtain⟨wh,h1,_⟩:=h.fold R.cnt (Nat.le_refl _)
 refine⟨wh,?_⟩
 rw[found_places,h.placesEq hF]
 unfold RowS.places
 rw[h1]
 by_cases h0:R.cnt=0
 ·obtain⟨e1,e2⟩:=h.ok.none h0
  rw[if_pos h0,if_pos h0,e1,e2]
 ·have:=(h.ok.fin (by omega)).2
  have hst:R.stop=R.start+R.cnt * R.size:=rfl
  rw[if_neg h0,if_neg h0,Nat.min_eq_right (by omega)]
def RowS.anew (R:RowS):RowS:={ R with synced:=R.start }
theorem Holds.anew (h:Holds D R b):Holds D R.anew b :=
 ⟨⟨h.ok.size,h.ok.head,h.ok.none,h.ok.fin,h.ok.least,h.ok.mod,by have:=h.ok.le;show R.start≤_;omega⟩,h.size,h.segs,h.only⟩
theorem Holds.open (h:Holds D R b) (ha:Alive D) (hF:dk.Form D):openD D R.head R.size=(0,D,R.anew):=by
 obtain⟨wh,h1⟩:=h.found hF
 have hz:=h.ok.size
 unfold openD
 rw[if_neg (by omega),if_neg (by rw[ha.down];decide),Int.toNat_natCast,h1,if_pos rfl]
 rfl
theorem Holds.none (hs:16≤size∧size≤4096) (hh:head.size≤1000000) (hno:∀k,k<100000000→D.has (nameB head k)=false):Holds D ⟨head,size,0,0,0,0⟩ [] :=
 ⟨⟨hs,hh,fun _=>⟨rfl,rfl⟩,fun h=>absurd h (Nat.lt_irrefl 0),fun h=>absurd h (Nat.lt_irrefl 0),Nat.zero_mod _,Nat.zero_le _⟩,rfl,fun i hi=>absurd hi (Nat.not_lt_zero _),fun k hk hh=>by rw[hno k hk]at hh;cases hh⟩
theorem RowOk.roomMod (h:RowOk R):R.room=R.size-R.fin%R.size:=by
 have hz:=h.size
 unfold RowS.room
 rcases Nat.eq_zero_or_pos R.cnt with h0|h0
 ·rw[if_neg (fun e=>by omega),(h.none h0).2,Nat.zero_mod];omega
 ·have h1:=h.fin h0
  have h2:=RowOk.stop (R:=R) h0
  have hm:R.lastp%R.size=0:=by unfold RowS.lastp;rw[Nat.add_mul_mod_self_right];exact h.mod
  by_cases h3:R.fin<R.stop
  ·rw[if_pos ⟨h0,h3⟩]
   have e:R.fin=R.lastp+(R.fin-R.lastp):=by omega
   have:R.fin%R.size=R.fin-R.lastp:=by
    rw[e,Nat.add_mod,hm,Nat.zero_add,Nat.mod_mod,Nat.mod_eq_of_lt (by omega)];omega
   omega
  ·rw[if_neg (fun e=>h3 e.2)]
   have e:R.fin=R.lastp+R.size:=by omega
   have:R.fin%R.size=0:=by rw[e,Nat.add_mod_right];exact hm
   omega
end
end Go.Proofs.YtiahjipoofeliaaGreatDoor.sg
