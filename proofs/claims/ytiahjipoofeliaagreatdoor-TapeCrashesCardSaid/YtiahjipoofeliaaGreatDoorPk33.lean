/- Lemmas for this claim. -/
import Derived.WalkLawsBesides
import Derived.Test.YtiahjipoofeliaaGreatDoorPk32
set_option maxRecDepth 100000
namespace Go.Proofs.YtiahjipoofeliaaGreatDoor.rc
open Go.ChangeShapes Go.WideShapes Go.ChangeAt Go.RowKit Go.Shelf
open nm vs oc cr
theorem results_cell_tmp3 {fn:Func} {p u v:Tmp} {ty:TypeId} (h:fn.results=#[.cell p ty,.tmp u,.tmp v]) (tmps:Array Value) (P:Program) (w:World) :
  (results fn tmps).run P w =
   ((asAddr (tmps.getD p undef)).run P w).andThen fun a w₁=>((loadVar ty a).run P w₁).andThen fun x w₂=>.ok (.tuple #[x,tmps.getD u undef,tmps.getD v undef]) w₂:=by
 simp only[results,h]
 simp [Sem.run_bind,Result.andThen]
theorem ret_msg3 {fn:Func} {p u v:Tmp} (h:fn.results=#[.cell p 63,.tmp u,.tmp v]) (tmps:Array Value) (w:World) (b:Nat) (cs:Array Value)
  (hp:tmps.getD p undef=.pointer (some ⟨b,0,none⟩)) (hg:w.heap[b]? = some (.cells cs 63 (0,0))) (hc:cs.size=10) :
  (results fn tmps).run Tryz.prog w=.ok (.tuple #[.agg cs,tmps.getD u undef,tmps.getD v undef]) w:=by
 have hload:=run_loadVar_row (P:=Tryz.prog) w b 63 63 cs (0,0) _ hg Tryz.underlying63 rfl (by rw[msgSize,hc])
 rw[results_cell_tmp3 h,hp]
 simp [asAddr,hload,Result.andThen]
def GetIs (m:MsgS) (n c:Int) (w:World) (e:Ending) (w':World):Prop :=
 ∃kv,e=.returned (.tuple #[.agg (msgA m kv),.int .i64 n,.int .i64 c])∧StrsAt w' kv m.keys∧Calm w w'
def GetIs2 (m:MsgS) (n c:Int) (w:World) (e:Ending) (w':World):Prop :=
 ∃kv,e=.returned (.tuple #[.agg (msgA m kv),.int .i64 n,.int .i64 c])∧StrsAt w' kv m.keys∧Calm w w'∧∀a n c,kv=.slice (some a) n c→0<n→w.heap.size≤a.block
theorem seal_size {t u:ByteArray} (h:openSeal t=some u):u.size≤t.size:=by
 unfold openSeal at h
 split at h
 ·cases h
 ·cases h
  simp
theorem head_kinds (a:ByteArray):a.toList=[]∨a.toList=[165]∨a.toList=[90]∨(a.toList.isEmpty=false∧(a.toList == [165])=false∧(a.toList == [90])=false):=by
 by_cases h0:a.toList=[]
 ·exact .inl h0
 ·by_cases h1:a.toList=[165]
  ·exact .inr (.inl h1)
  ·by_cases h2:a.toList=[90]
   ·exact .inr (.inr (.inl h2))
   ·exact .inr (.inr (.inr ⟨by rw[List.isEmpty_eq_false_iff];exact h0,beq_eq_false_iff_ne.2 h1,beq_eq_false_iff_ne.2 h2⟩))
theorem of_list {a:ByteArray} {l:List UInt8} (h:a.toList=l):a=⟨l.toArray⟩:=ba_ext (by rw[←Lib.toList_data,h])
theorem toList_ne {a b:ByteArray} (h:a≠b):(a.toList==b.toList)=false:=beq_eq_false_iff_ne.2 (fun e=>h (ba_ext (by rw[←Lib.toList_data,←Lib.toList_data];exact e)))
set_option maxHeartbeats 16000000 in
theorem Get_fresh (b:Nat) (s:ByteArray) (w:World) (ht:TabAt w b 1024) (hs:s.size≤1000000) :
  Calls Tryz.prog 72 #[.pointer (some ⟨b,0,none⟩),.string s] w (GetIs2 (getS RightP s).1 (getS RightP s).2.1 (getS RightP s).2.2 w):=by
 have Z0:=box (heap_new w (.cells zeroA 63))
 have C0:=box ((Calm.refl w).alloc (.cells zeroA 63))
 obtain⟨⟨a,R1⟩,h1⟩:∃r,(⟨s,0⟩:Rdr).take 1=r:=⟨_,rfl⟩
 obtain⟨⟨n,R2⟩,h2⟩:∃r,R1.num 2=r:=⟨_,rfl⟩
 obtain⟨⟨t,R3⟩,h3⟩:∃r,R2.take (max (n-3) 0)=r:=⟨_,rfl⟩
 have l1:R1.s.size≤1000000:=Nat.le_trans (by have:=take_left (⟨s,0⟩:Rdr) 1;rw[h1]at this;exact this) hs
 have l2:R2.s.size≤1000000:=Nat.le_trans (by have:=num_left R1 2;rw[h2]at this;exact this) l1
 have lt:t.size≤1000000:=by
  have:(R2.take (max (n-3) 0)).1.size≤R2.s.size:=by
   unfold Rdr.take
   split;exact Nat.zero_le _
   split;exact Nat.zero_le _
   split;exact Nat.zero_le _
   simp only[ByteArray.size_extract];omega
  rw[h3]at this
  exact Nat.le_trans this l2
 have hn:=num_small R1 2
 rw[h2]at hn
 obtain⟨hn0,hn1⟩:=hn
 simp only at hn0 hn1
 have hget:getS RightP s=if a≠⟨#[]⟩∧a≠markC∧a≠blankC then ((zeroM,0,4):MsgS×Int×Int) else if s.size<3 then (zeroM,0,3) else if n<3∨(a=blankC∧1024<n) then (zeroM,0,4) else if R3.e≠0 then (zeroM,0,3) else if a=blankC∧t≠zerosB t.size then (zeroM,0,4) else if a=blankC then (fillM n.toNat,n,0) else match openSeal t with
   | none=>(zeroM,0,5)
   | some u=>if (openS u).2.end_=0∧(openS u).1.kind≠0∧RightP (openS u).1 then ((openS u).1,n,0) else (zeroM,0,4):=by
  unfold getS
  simp only[h1,h2,h3]
  rfl
 have c1:=box (fun (rb:Nat) (W:World) (h:RdrAt W rb (⟨s,0⟩:Rdr))=>(show Calls Tryz.prog 119 #[.pointer (some ⟨rb,0,none⟩),.int .i64 1] W (RdrDone (.string a) rb R1 W) from by
  have:=Take_any rb (⟨s,0⟩:Rdr) 1 W h (Nat.le_trans hs (by decide))
  rwa[h1]at this))
 have c2:=box (fun (rb:Nat) (W:World) (h:RdrAt W rb R1)=>(show Calls Tryz.prog 120 #[.pointer (some ⟨rb,0,none⟩),.int .i64 2] W (RdrDone (.int .i64 n) rb R2 W) from by
  have:=RNum_any rb R1 2 W h (Nat.le_trans l1 (by decide))
  rwa[h2]at this))
 have c3:=box (fun (rb:Nat) (W:World) (h:RdrAt W rb R2)=>(show Calls Tryz.prog 119 #[.pointer (some ⟨rb,0,none⟩),.int .i64 (max (n-3) 0)] W (RdrDone (.string t) rb R3 W) from by
  have:=Take_any rb R2 (max (n-3) 0) W h (Nat.le_trans l2 (by decide))
  rwa[h3]at this))
 have cE:=box (fun (rb:Nat) (W:World) (h:RdrAt W rb R3)=>Err_any rb R3 W h)
 have cZ:=box (fun (k:Nat) (W:World) (hk:k≤1000000)=>noughts_any k W (by omega))
 have cO:=box (fun (W:World) (hW:Calm w W)=>Open_any b t W (heap_calm hW ht) lt)
 have cI:=box (fun (u:ByteArray) (W:World) (hu:u.size≤1000000)=>opened_any u W (by omega))
 have hwn:IntKind.i64.wrap (n-3)=n-3:=IntWalk.i64_in _ (by omega)
 have Hget:=box hget
 clear h1 h2 h3 l1 l2 ht hs hget
 go_enter Tryz.func72,Tryz.ntmps72
 go_wp2_with fail
 refine(New_any s _).mono ?_
 rintro e w1 ⟨rb,hrb,rfl,hr1,hc1⟩
 simp only[World.size_alloc]at hrb
 have X0:=box hr1
 have W1:=box (C0.out.trans hc1)
 have Z1:=box (heap_calm hc1 Z0.out)
 have Hrb:=box hrb
 clear hr1 hc1 hrb
 go_wp2_with fail
 refine(c1.out rb _ X0.out).mono ?_
 rintro e w2 ⟨rfl,hr,hk⟩
 have X1:=box hr
 have W2:=box (Below.trans W1.out (hk.below (B:=w.heap.size) W1.out.size (fun x e=>by have:=Hrb.out;omega)))
 have Z2:=box ((hk.block _ (heap_lt Z1.out) (fun e=>by have:=Hrb.out;omega)).trans Z1.out)
 clear hr hk
 go_wp2_with fail
 refine(c2.out rb _ X1.out).mono ?_
 rintro e w3 ⟨rfl,hr,hk⟩
 have X2:=box hr
 have W3:=box (Below.trans W2.out (hk.below (B:=w.heap.size) W2.out.size (fun x e=>by have:=Hrb.out;omega)))
 have Z3:=box ((hk.block _ (heap_lt Z2.out) (fun e=>by have:=Hrb.out;omega)).trans Z2.out)
 clear hr hk
 go_wp2_with fail
 refine(c3.out rb _ X2.out).mono ?_
 rintro e w4 ⟨rfl,hr,hk⟩
 have X3:=box hr
 have W4:=box (Below.trans W3.out (hk.below (B:=w.heap.size) W3.out.size (fun x e=>by have:=Hrb.out;omega)))
 have Z4:=box ((hk.block _ (heap_lt Z3.out) (fun e=>by have:=Hrb.out;omega)).trans Z3.out)
 clear hr hk
 have z0:=cell_of Z4.out 0
 have z1:=cell_of Z4.out 1
 have z2:=cell_of Z4.out 2
 have z3:=cell_of Z4.out 3
 have z4:=cell_of Z4.out 4
 have z5:=cell_of Z4.out 5
 have z6:=cell_of Z4.out 6
 have z7:=cell_of Z4.out 7
 have z8:=cell_of Z4.out 8
 have z9:=cell_of Z4.out 9
 have f0:=free_of Z4.out 0
 have f1:=free_of Z4.out 1
 have f2:=free_of Z4.out 2
 have f3:=free_of Z4.out 3
 have f4:=free_of Z4.out 4
 have f5:=free_of Z4.out 5
 have f6:=free_of Z4.out 6
 have f7:=free_of Z4.out 7
 have f8:=free_of Z4.out 8
 have f9:=free_of Z4.out 9
 have hlz:=heap_lt Z4.out
 clear X0 X1 X2 W1 W2 W3 Z0 Z1 Z2 Z3 C0 c1 c2 c3
 obtain⟨k,rfl⟩:∃k:Nat,n=k:=⟨n.toNat,by omega⟩
 clear hn0 hn1 hwn
 rcases head_kinds a with h0|h0|h0|⟨h0,h1,h2⟩
 ·have ea:a=⟨#[]⟩:=of_list h0
  have hg0:=Hget.out
  rw[if_neg (fun h=>h.1 ea)]at hg0
  have Hea:=box ea
  have hget:=box hg0
  clear ea Hget hg0
  have hnb:=box (show ¬a=blankC by rw[Hea.out];decide)
  by_cases hs3:s.size<3
  ·have Hg:=box (show getS RightP s=(zeroM,0,3) by rw[hget.out,if_pos hs3])
   have Hfin:=box (put_msg (w:=w4) (b:=w.heap.size) (Z4.out) rfl (.int .i64 0) (.int .i64 0) (.int .i64 0) (.int .i64 0) (.int .i64 0) (.int .i64 0) (.string ⟨#[]⟩) (.string ⟨#[]⟩) (.string ⟨#[]⟩) (.slice none 0 0))
   have Cfin:=box (calm_put_msg (a:=w) (w:=w4) (W4.out) (b:=w.heap.size) (Nat.le_refl _) (.int .i64 0) (.int .i64 0) (.int .i64 0) (.int .i64 0) (.int .i64 0) (.int .i64 0) (.string ⟨#[]⟩) (.string ⟨#[]⟩) (.string ⟨#[]⟩) (.slice none 0 0))
   go_wp2_with fail
   (try simp only[Exit.inBlock,Exit.then])
   refine bodyPost_ret (ret_msg3 rfl _ _ w.heap.size _ rfl Hfin.out rfl) rfl ?_
   unfold GetIs2
   rw[Hg.out]
   exact⟨.slice none 0 0,rfl,.inl ⟨rfl,none,0,rfl⟩,Cfin.out,fun _ _ _ h=>by cases h⟩
  have hget:=box (hget.out.trans (if_neg hs3))
  by_cases hn3:(k:Int)<3
  ·have Hg:=box (show getS RightP s=(zeroM,0,4) by rw[hget.out,if_pos (.inl hn3)])
   have Hfin:=box (put_msg (w:=w4) (b:=w.heap.size) (Z4.out) rfl (.int .i64 0) (.int .i64 0) (.int .i64 0) (.int .i64 0) (.int .i64 0) (.int .i64 0) (.string ⟨#[]⟩) (.string ⟨#[]⟩) (.string ⟨#[]⟩) (.slice none 0 0))
   have Cfin:=box (calm_put_msg (a:=w) (w:=w4) (W4.out) (b:=w.heap.size) (Nat.le_refl _) (.int .i64 0) (.int .i64 0) (.int .i64 0) (.int .i64 0) (.int .i64 0) (.int .i64 0) (.string ⟨#[]⟩) (.string ⟨#[]⟩) (.string ⟨#[]⟩) (.slice none 0 0))
   go_wp2_with fail
   (try simp only[Exit.inBlock,Exit.then])
   refine bodyPost_ret (ret_msg3 rfl _ _ w.heap.size _ rfl Hfin.out rfl) rfl ?_
   unfold GetIs2
   rw[Hg.out]
   exact⟨.slice none 0 0,rfl,.inl ⟨rfl,none,0,rfl⟩,Cfin.out,fun _ _ _ h=>by cases h⟩
  have hget:=box (hget.out.trans (if_neg (fun h=>h.elim hn3 fun h=>hnb.out h.1)))
  have hn3a:3≤(k:Int):=by omega
  clear hn3
  by_cases he:R3.e=0
  ·have hget:=box (hget.out.trans (if_neg (fun h=>h he)))
   have HE:=box (fun (W:World) (h:RdrAt W rb R3)=>(show Calls Tryz.prog 121 #[.pointer (some ⟨rb,0,none⟩)] W fun e w'=>e=.returned (.int .i64 0)∧W=w' from by
    have:=cE.out rb W h
    rwa[he]at this))
   clear he
   have hget:=box (hget.out.trans ((if_neg (fun h=>hnb.out h.1)).trans (if_neg hnb.out)))
   have hO:=box (cO.out w4 W4.out)
   cases hos:openSeal t with
   | none =>
    rw[hos]at hget hO
    have Hg:=box hget.out
    clear hos
    go_wp2_with fail
    refine(HE.out _ X3.out).mono ?_
    rintro e w' ⟨rfl,rfl⟩
    go_wp2_with fail
    refine hO.out.mono ?_
    rintro e w5 ⟨rfl,hc5⟩
    have Z5:=box (heap_calm hc5 Z4.out)
    have W5:=box (Calm.trans W4.out hc5)
    clear hc5
    clear z0 z1 z2 z3 z4 z5 z6 z7 z8 z9 f0 f1 f2 f3 f4 f5 f6 f7 f8 f9 hlz
    have z0:=cell_of Z5.out 0
    have z1:=cell_of Z5.out 1
    have z2:=cell_of Z5.out 2
    have z3:=cell_of Z5.out 3
    have z4:=cell_of Z5.out 4
    have z5:=cell_of Z5.out 5
    have z6:=cell_of Z5.out 6
    have z7:=cell_of Z5.out 7
    have z8:=cell_of Z5.out 8
    have z9:=cell_of Z5.out 9
    have f0:=free_of Z5.out 0
    have f1:=free_of Z5.out 1
    have f2:=free_of Z5.out 2
    have f3:=free_of Z5.out 3
    have f4:=free_of Z5.out 4
    have f5:=free_of Z5.out 5
    have f6:=free_of Z5.out 6
    have f7:=free_of Z5.out 7
    have f8:=free_of Z5.out 8
    have f9:=free_of Z5.out 9
    have hlz:=heap_lt Z5.out
    unfold openV
    have Hfin:=box (put_msg (w:=w5) (b:=w.heap.size) (Z5.out) rfl (.int .i64 0) (.int .i64 0) (.int .i64 0) (.int .i64 0) (.int .i64 0) (.int .i64 0) (.string ⟨#[]⟩) (.string ⟨#[]⟩) (.string ⟨#[]⟩) (.slice none 0 0))
    have Cfin:=box (calm_put_msg (a:=w) (w:=w5) (W5.out) (b:=w.heap.size) (Nat.le_refl _) (.int .i64 0) (.int .i64 0) (.int .i64 0) (.int .i64 0) (.int .i64 0) (.int .i64 0) (.string ⟨#[]⟩) (.string ⟨#[]⟩) (.string ⟨#[]⟩) (.slice none 0 0))
    go_wp2_with fail
    (try simp only[Exit.inBlock,Exit.then])
    refine bodyPost_ret (ret_msg3 rfl _ _ w.heap.size _ rfl Hfin.out rfl) rfl ?_
    unfold GetIs2
    rw[Hg.out]
    exact⟨.slice none 0 0,rfl,.inl ⟨rfl,none,0,rfl⟩,Cfin.out,fun _ _ _ h=>by cases h⟩
   | some u =>
    rw[hos]at hget hO
    have hI:=box (fun W=>cI.out u W (Nat.le_trans (seal_size hos) lt))
    have Hdef:=box (show OpenOk u↔(openS u).2.end_=0∧(openS u).1.kind≠0∧RightP (openS u).1 from Iff.rfl)
    clear hos
    obtain⟨q,hq⟩:∃q,decide (OpenOk u)=q:=⟨_,rfl⟩
    have Hq:=box hq
    have hI2:=box (fun W=>(hI.out W).mono fun e w' h=>(show ∃kv,e=.returned (.tuple #[.agg (msgA (openS u).1 kv),.bool q])∧StrsAt w' kv (openS u).1.keys∧Calm W w'∧∀a n c,kv=.slice (some a) n c→0<n→W.heap.size≤a.block from by obtain⟨kv,h1,h2⟩:=h;rw[hq]at h1;exact⟨kv,h1,h2⟩))
    clear hq hI
    have hg2:=hget.out
    obtain⟨⟨v1,v2,v3,v4,v5,v6,v7,v8,v9,L⟩,hx⟩:∃x,(openS u).1=x:=⟨_,rfl⟩
    simp only[hx]at hI2 Hdef hg2
    have hget:=box hg2
    clear hx hg2
    go_wp2_with fail
    refine(HE.out _ X3.out).mono ?_
    rintro e w' ⟨rfl,rfl⟩
    go_wp2_with fail
    refine hO.out.mono ?_
    rintro e w5 ⟨rfl,hc5⟩
    have Z5:=box (heap_calm hc5 Z4.out)
    have W5:=box (Calm.trans W4.out hc5)
    clear hc5
    clear z0 z1 z2 z3 z4 z5 z6 z7 z8 z9 f0 f1 f2 f3 f4 f5 f6 f7 f8 f9 hlz
    unfold openV
    go_wp2_with fail
    refine(hI2.out _).mono ?_
    rintro e w6 ⟨kv,rfl,hst,hc6,hfr⟩
    obtain⟨ka,kcap,rfl,_⟩:=hst.uni
    have S6:=box hst
    have FR:=box (show ∀a n c,Value.slice ka L.length kcap=.slice (some a) n c→0<n→w.heap.size<a.block from fun a n c e hn=>by have:=hfr a n c e hn;have:=heap_lt Z5.out;omega)
    have Z6:=box (heap_calm hc6 Z5.out)
    have W6:=box (Calm.trans W5.out hc6)
    clear hc6 hst hfr
    have Z7:=box (heap_old w6 (.cells (msgA ⟨v1,v2,v3,v4,v5,v6,v7,v8,v9,L⟩ (.slice ka L.length kcap)) 63) Z6.out)
    have W7:=box (Calm.alloc W6.out (.cells (msgA ⟨v1,v2,v3,v4,v5,v6,v7,v8,v9,L⟩ (.slice ka L.length kcap)) 63))
    have S7:=box (S6.out.calm ((Calm.refl w6).alloc (.cells (msgA ⟨v1,v2,v3,v4,v5,v6,v7,v8,v9,L⟩ (.slice ka L.length kcap)) 63)))
    have N7:=box (heap_new w6 (.cells (msgA ⟨v1,v2,v3,v4,v5,v6,v7,v8,v9,L⟩ (.slice ka L.length kcap)) 63))
    have hl6:=heap_lt Z6.out
    cases q
    ·have Hg:=box (show getS RightP s=(zeroM,0,4) by rw[hget.out,if_neg (fun h=>of_decide_eq_false Hq.out (Hdef.out.2 h))])
     go_upto_region 23 with (fail)
     obtain⟨w7,hw7⟩:∃X,w6.alloc (.cells (msgA ⟨v1,v2,v3,v4,v5,v6,v7,v8,v9,L⟩ (.slice ka L.length kcap)) 63)=X:=⟨_,rfl⟩
     rw[hw7]at Z7 W7 S7 N7
     rw[hw7]
     clear hw7
     have z0:=cell_of Z7.out 0
     have z1:=cell_of Z7.out 1
     have z2:=cell_of Z7.out 2
     have z3:=cell_of Z7.out 3
     have z4:=cell_of Z7.out 4
     have z5:=cell_of Z7.out 5
     have z6:=cell_of Z7.out 6
     have z7:=cell_of Z7.out 7
     have z8:=cell_of Z7.out 8
     have z9:=cell_of Z7.out 9
     have f0:=free_of Z7.out 0
     have f1:=free_of Z7.out 1
     have f2:=free_of Z7.out 2
     have f3:=free_of Z7.out 3
     have f4:=free_of Z7.out 4
     have f5:=free_of Z7.out 5
     have f6:=free_of Z7.out 6
     have f7:=free_of Z7.out 7
     have f8:=free_of Z7.out 8
     have f9:=free_of Z7.out 9
     have hlz:=heap_lt Z7.out
     have Hfin:=box (put_msg (w:=w7) (b:=w.heap.size) (Z7.out) rfl (.int .i64 0) (.int .i64 0) (.int .i64 0) (.int .i64 0) (.int .i64 0) (.int .i64 0) (.string ⟨#[]⟩) (.string ⟨#[]⟩) (.string ⟨#[]⟩) (.slice none 0 0))
     have Cfin:=box (calm_put_msg (a:=w) (w:=w7) (W7.out) (b:=w.heap.size) (Nat.le_refl _) (.int .i64 0) (.int .i64 0) (.int .i64 0) (.int .i64 0) (.int .i64 0) (.int .i64 0) (.string ⟨#[]⟩) (.string ⟨#[]⟩) (.string ⟨#[]⟩) (.slice none 0 0))
     go_wp2_with fail
     (try simp only[Exit.inBlock,Exit.then])
     refine bodyPost_ret (ret_msg3 rfl _ _ w.heap.size _ rfl Hfin.out rfl) rfl ?_
     unfold GetIs2
     rw[Hg.out]
     exact⟨.slice none 0 0,rfl,.inl ⟨rfl,none,0,rfl⟩,Cfin.out,fun _ _ _ h=>by cases h⟩
    ·have Hg:=box (show getS RightP s=(⟨v1,v2,v3,v4,v5,v6,v7,v8,v9,L⟩,(k:Int),0) by rw[hget.out,if_pos (Hdef.out.1 (of_decide_eq_true Hq.out))])
     go_upto_region 24 with (fail)
     obtain⟨w7,hw7⟩:∃X,w6.alloc (.cells (msgA ⟨v1,v2,v3,v4,v5,v6,v7,v8,v9,L⟩ (.slice ka L.length kcap)) 63)=X:=⟨_,rfl⟩
     rw[hw7]at Z7 W7 S7 N7
     rw[hw7]
     clear hw7
     have z0:=cell_of Z7.out 0
     have z1:=cell_of Z7.out 1
     have z2:=cell_of Z7.out 2
     have z3:=cell_of Z7.out 3
     have z4:=cell_of Z7.out 4
     have z5:=cell_of Z7.out 5
     have z6:=cell_of Z7.out 6
     have z7:=cell_of Z7.out 7
     have z8:=cell_of Z7.out 8
     have z9:=cell_of Z7.out 9
     have f0:=free_of Z7.out 0
     have f1:=free_of Z7.out 1
     have f2:=free_of Z7.out 2
     have f3:=free_of Z7.out 3
     have f4:=free_of Z7.out 4
     have f5:=free_of Z7.out 5
     have f6:=free_of Z7.out 6
     have f7:=free_of Z7.out 7
     have f8:=free_of Z7.out 8
     have f9:=free_of Z7.out 9
     have hlz:=heap_lt Z7.out
     have n0:=cell_of N7.out 0
     have n1:=cell_of N7.out 1
     have n2:=cell_of N7.out 2
     have n3:=cell_of N7.out 3
     have n4:=cell_of N7.out 4
     have n5:=cell_of N7.out 5
     have n6:=cell_of N7.out 6
     have n7:=cell_of N7.out 7
     have n8:=cell_of N7.out 8
     have n9:=cell_of N7.out 9
     have hn7:=heap_lt N7.out
     have Hfin:=box (put_msg (w:=w7) (b:=w.heap.size) (Z7.out) rfl (.int .i64 v1) (.int .i64 v2) (.int .i64 v3) (.int .i64 v4) (.int .i64 v5) (.int .i64 v6) (.string v7) (.string v8) (.string v9) (.slice ka L.length kcap))
     have Cfin:=box (calm_put_msg (a:=w) (w:=w7) (W7.out) (b:=w.heap.size) (Nat.le_refl _) (.int .i64 v1) (.int .i64 v2) (.int .i64 v3) (.int .i64 v4) (.int .i64 v5) (.int .i64 v6) (.string v7) (.string v8) (.string v9) (.slice ka L.length kcap))
     have Hk:=box (strs_keep S7.out (keeps_put_msg (w:=w7) (Keeps.refl (fun b=>b=w.heap.size) _) (b:=w.heap.size) rfl (.int .i64 v1) (.int .i64 v2) (.int .i64 v3) (.int .i64 v4) (.int .i64 v5) (.int .i64 v6) (.string v7) (.string v8) (.string v9) (.slice ka L.length kcap)) (fun a n c e hn hf=>by have:=FR.out a n c e hn;omega))
     go_wp2_with fail
     (try simp only[Exit.inBlock,Exit.then])
     refine bodyPost_ret (ret_msg3 rfl _ _ w.heap.size _ rfl Hfin.out rfl) rfl ?_
     unfold GetIs2
     rw[Hg.out]
     exact⟨.slice ka L.length kcap,rfl,Hk.out,Cfin.out,fun a n c e hn=>Nat.le_of_lt (FR.out a n c e hn)⟩
  ·have Hg:=box (show getS RightP s=(zeroM,0,3) by rw[hget.out,if_pos he])
   have e1:(R3.e==0)=false:=beq_eq_false_iff_ne.2 he
   have e2:(R3.e != 0)=true:=by rw[bne,e1];rfl
   have HE:=box (fun (W:World) (h:RdrAt W rb R3)=>cE.out rb W h)
   clear he
   go_wp2_with fail
   refine(HE.out _ X3.out).mono ?_
   rintro e w' ⟨rfl,rfl⟩
   have Hfin:=box (put_msg (w:=w4) (b:=w.heap.size) (Z4.out) rfl (.int .i64 0) (.int .i64 0) (.int .i64 0) (.int .i64 0) (.int .i64 0) (.int .i64 0) (.string ⟨#[]⟩) (.string ⟨#[]⟩) (.string ⟨#[]⟩) (.slice none 0 0))
   have Cfin:=box (calm_put_msg (a:=w) (w:=w4) (W4.out) (b:=w.heap.size) (Nat.le_refl _) (.int .i64 0) (.int .i64 0) (.int .i64 0) (.int .i64 0) (.int .i64 0) (.int .i64 0) (.string ⟨#[]⟩) (.string ⟨#[]⟩) (.string ⟨#[]⟩) (.slice none 0 0))
   go_wp2_with fail
   (try simp only[Exit.inBlock,Exit.then])
   refine bodyPost_ret (ret_msg3 rfl _ _ w.heap.size _ rfl Hfin.out rfl) rfl ?_
   unfold GetIs2
   rw[Hg.out]
   exact⟨.slice none 0 0,rfl,.inl ⟨rfl,none,0,rfl⟩,Cfin.out,fun _ _ _ h=>by cases h⟩
 ·have ea:a=markC:=of_list h0
  have hg0:=Hget.out
  rw[if_neg (fun h=>h.2.1 ea)]at hg0
  have Hea:=box ea
  have hget:=box hg0
  clear ea Hget hg0
  have hnb:=box (show ¬a=blankC by rw[Hea.out];decide)
  by_cases hs3:s.size<3
  ·have Hg:=box (show getS RightP s=(zeroM,0,3) by rw[hget.out,if_pos hs3])
   have Hfin:=box (put_msg (w:=w4) (b:=w.heap.size) (Z4.out) rfl (.int .i64 0) (.int .i64 0) (.int .i64 0) (.int .i64 0) (.int .i64 0) (.int .i64 0) (.string ⟨#[]⟩) (.string ⟨#[]⟩) (.string ⟨#[]⟩) (.slice none 0 0))
   have Cfin:=box (calm_put_msg (a:=w) (w:=w4) (W4.out) (b:=w.heap.size) (Nat.le_refl _) (.int .i64 0) (.int .i64 0) (.int .i64 0) (.int .i64 0) (.int .i64 0) (.int .i64 0) (.string ⟨#[]⟩) (.string ⟨#[]⟩) (.string ⟨#[]⟩) (.slice none 0 0))
   go_wp2_with fail
   (try simp only[Exit.inBlock,Exit.then])
   refine bodyPost_ret (ret_msg3 rfl _ _ w.heap.size _ rfl Hfin.out rfl) rfl ?_
   unfold GetIs2
   rw[Hg.out]
   exact⟨.slice none 0 0,rfl,.inl ⟨rfl,none,0,rfl⟩,Cfin.out,fun _ _ _ h=>by cases h⟩
  have hget:=box (hget.out.trans (if_neg hs3))
  by_cases hn3:(k:Int)<3
  ·have Hg:=box (show getS RightP s=(zeroM,0,4) by rw[hget.out,if_pos (.inl hn3)])
   have Hfin:=box (put_msg (w:=w4) (b:=w.heap.size) (Z4.out) rfl (.int .i64 0) (.int .i64 0) (.int .i64 0) (.int .i64 0) (.int .i64 0) (.int .i64 0) (.string ⟨#[]⟩) (.string ⟨#[]⟩) (.string ⟨#[]⟩) (.slice none 0 0))
   have Cfin:=box (calm_put_msg (a:=w) (w:=w4) (W4.out) (b:=w.heap.size) (Nat.le_refl _) (.int .i64 0) (.int .i64 0) (.int .i64 0) (.int .i64 0) (.int .i64 0) (.int .i64 0) (.string ⟨#[]⟩) (.string ⟨#[]⟩) (.string ⟨#[]⟩) (.slice none 0 0))
   go_wp2_with fail
   (try simp only[Exit.inBlock,Exit.then])
   refine bodyPost_ret (ret_msg3 rfl _ _ w.heap.size _ rfl Hfin.out rfl) rfl ?_
   unfold GetIs2
   rw[Hg.out]
   exact⟨.slice none 0 0,rfl,.inl ⟨rfl,none,0,rfl⟩,Cfin.out,fun _ _ _ h=>by cases h⟩
  have hget:=box (hget.out.trans (if_neg (fun h=>h.elim hn3 fun h=>hnb.out h.1)))
  have hn3a:3≤(k:Int):=by omega
  clear hn3
  by_cases he:R3.e=0
  ·have hget:=box (hget.out.trans (if_neg (fun h=>h he)))
   have HE:=box (fun (W:World) (h:RdrAt W rb R3)=>(show Calls Tryz.prog 121 #[.pointer (some ⟨rb,0,none⟩)] W fun e w'=>e=.returned (.int .i64 0)∧W=w' from by
    have:=cE.out rb W h
    rwa[he]at this))
   clear he
   have hget:=box (hget.out.trans ((if_neg (fun h=>hnb.out h.1)).trans (if_neg hnb.out)))
   have hO:=box (cO.out w4 W4.out)
   cases hos:openSeal t with
   | none =>
    rw[hos]at hget hO
    have Hg:=box hget.out
    clear hos
    go_wp2_with fail
    refine(HE.out _ X3.out).mono ?_
    rintro e w' ⟨rfl,rfl⟩
    go_wp2_with fail
    refine hO.out.mono ?_
    rintro e w5 ⟨rfl,hc5⟩
    have Z5:=box (heap_calm hc5 Z4.out)
    have W5:=box (Calm.trans W4.out hc5)
    clear hc5
    clear z0 z1 z2 z3 z4 z5 z6 z7 z8 z9 f0 f1 f2 f3 f4 f5 f6 f7 f8 f9 hlz
    have z0:=cell_of Z5.out 0
    have z1:=cell_of Z5.out 1
    have z2:=cell_of Z5.out 2
    have z3:=cell_of Z5.out 3
    have z4:=cell_of Z5.out 4
    have z5:=cell_of Z5.out 5
    have z6:=cell_of Z5.out 6
    have z7:=cell_of Z5.out 7
    have z8:=cell_of Z5.out 8
    have z9:=cell_of Z5.out 9
    have f0:=free_of Z5.out 0
    have f1:=free_of Z5.out 1
    have f2:=free_of Z5.out 2
    have f3:=free_of Z5.out 3
    have f4:=free_of Z5.out 4
    have f5:=free_of Z5.out 5
    have f6:=free_of Z5.out 6
    have f7:=free_of Z5.out 7
    have f8:=free_of Z5.out 8
    have f9:=free_of Z5.out 9
    have hlz:=heap_lt Z5.out
    unfold openV
    have Hfin:=box (put_msg (w:=w5) (b:=w.heap.size) (Z5.out) rfl (.int .i64 0) (.int .i64 0) (.int .i64 0) (.int .i64 0) (.int .i64 0) (.int .i64 0) (.string ⟨#[]⟩) (.string ⟨#[]⟩) (.string ⟨#[]⟩) (.slice none 0 0))
    have Cfin:=box (calm_put_msg (a:=w) (w:=w5) (W5.out) (b:=w.heap.size) (Nat.le_refl _) (.int .i64 0) (.int .i64 0) (.int .i64 0) (.int .i64 0) (.int .i64 0) (.int .i64 0) (.string ⟨#[]⟩) (.string ⟨#[]⟩) (.string ⟨#[]⟩) (.slice none 0 0))
    go_wp2_with fail
    (try simp only[Exit.inBlock,Exit.then])
    refine bodyPost_ret (ret_msg3 rfl _ _ w.heap.size _ rfl Hfin.out rfl) rfl ?_
    unfold GetIs2
    rw[Hg.out]
    exact⟨.slice none 0 0,rfl,.inl ⟨rfl,none,0,rfl⟩,Cfin.out,fun _ _ _ h=>by cases h⟩
   | some u =>
    rw[hos]at hget hO
    have hI:=box (fun W=>cI.out u W (Nat.le_trans (seal_size hos) lt))
    have Hdef:=box (show OpenOk u↔(openS u).2.end_=0∧(openS u).1.kind≠0∧RightP (openS u).1 from Iff.rfl)
    clear hos
    obtain⟨q,hq⟩:∃q,decide (OpenOk u)=q:=⟨_,rfl⟩
    have Hq:=box hq
    have hI2:=box (fun W=>(hI.out W).mono fun e w' h=>(show ∃kv,e=.returned (.tuple #[.agg (msgA (openS u).1 kv),.bool q])∧StrsAt w' kv (openS u).1.keys∧Calm W w'∧∀a n c,kv=.slice (some a) n c→0<n→W.heap.size≤a.block from by obtain⟨kv,h1,h2⟩:=h;rw[hq]at h1;exact⟨kv,h1,h2⟩))
    clear hq hI
    have hg2:=hget.out
    obtain⟨⟨v1,v2,v3,v4,v5,v6,v7,v8,v9,L⟩,hx⟩:∃x,(openS u).1=x:=⟨_,rfl⟩
    simp only[hx]at hI2 Hdef hg2
    have hget:=box hg2
    clear hx hg2
    go_wp2_with fail
    refine(HE.out _ X3.out).mono ?_
    rintro e w' ⟨rfl,rfl⟩
    go_wp2_with fail
    refine hO.out.mono ?_
    rintro e w5 ⟨rfl,hc5⟩
    have Z5:=box (heap_calm hc5 Z4.out)
    have W5:=box (Calm.trans W4.out hc5)
    clear hc5
    clear z0 z1 z2 z3 z4 z5 z6 z7 z8 z9 f0 f1 f2 f3 f4 f5 f6 f7 f8 f9 hlz
    unfold openV
    go_wp2_with fail
    refine(hI2.out _).mono ?_
    rintro e w6 ⟨kv,rfl,hst,hc6,hfr⟩
    obtain⟨ka,kcap,rfl,_⟩:=hst.uni
    have S6:=box hst
    have FR:=box (show ∀a n c,Value.slice ka L.length kcap=.slice (some a) n c→0<n→w.heap.size<a.block from fun a n c e hn=>by have:=hfr a n c e hn;have:=heap_lt Z5.out;omega)
    have Z6:=box (heap_calm hc6 Z5.out)
    have W6:=box (Calm.trans W5.out hc6)
    clear hc6 hst hfr
    have Z7:=box (heap_old w6 (.cells (msgA ⟨v1,v2,v3,v4,v5,v6,v7,v8,v9,L⟩ (.slice ka L.length kcap)) 63) Z6.out)
    have W7:=box (Calm.alloc W6.out (.cells (msgA ⟨v1,v2,v3,v4,v5,v6,v7,v8,v9,L⟩ (.slice ka L.length kcap)) 63))
    have S7:=box (S6.out.calm ((Calm.refl w6).alloc (.cells (msgA ⟨v1,v2,v3,v4,v5,v6,v7,v8,v9,L⟩ (.slice ka L.length kcap)) 63)))
    have N7:=box (heap_new w6 (.cells (msgA ⟨v1,v2,v3,v4,v5,v6,v7,v8,v9,L⟩ (.slice ka L.length kcap)) 63))
    have hl6:=heap_lt Z6.out
    cases q
    ·have Hg:=box (show getS RightP s=(zeroM,0,4) by rw[hget.out,if_neg (fun h=>of_decide_eq_false Hq.out (Hdef.out.2 h))])
     go_upto_region 23 with (fail)
     obtain⟨w7,hw7⟩:∃X,w6.alloc (.cells (msgA ⟨v1,v2,v3,v4,v5,v6,v7,v8,v9,L⟩ (.slice ka L.length kcap)) 63)=X:=⟨_,rfl⟩
     rw[hw7]at Z7 W7 S7 N7
     rw[hw7]
     clear hw7
     have z0:=cell_of Z7.out 0
     have z1:=cell_of Z7.out 1
     have z2:=cell_of Z7.out 2
     have z3:=cell_of Z7.out 3
     have z4:=cell_of Z7.out 4
     have z5:=cell_of Z7.out 5
     have z6:=cell_of Z7.out 6
     have z7:=cell_of Z7.out 7
     have z8:=cell_of Z7.out 8
     have z9:=cell_of Z7.out 9
     have f0:=free_of Z7.out 0
     have f1:=free_of Z7.out 1
     have f2:=free_of Z7.out 2
     have f3:=free_of Z7.out 3
     have f4:=free_of Z7.out 4
     have f5:=free_of Z7.out 5
     have f6:=free_of Z7.out 6
     have f7:=free_of Z7.out 7
     have f8:=free_of Z7.out 8
     have f9:=free_of Z7.out 9
     have hlz:=heap_lt Z7.out
     have Hfin:=box (put_msg (w:=w7) (b:=w.heap.size) (Z7.out) rfl (.int .i64 0) (.int .i64 0) (.int .i64 0) (.int .i64 0) (.int .i64 0) (.int .i64 0) (.string ⟨#[]⟩) (.string ⟨#[]⟩) (.string ⟨#[]⟩) (.slice none 0 0))
     have Cfin:=box (calm_put_msg (a:=w) (w:=w7) (W7.out) (b:=w.heap.size) (Nat.le_refl _) (.int .i64 0) (.int .i64 0) (.int .i64 0) (.int .i64 0) (.int .i64 0) (.int .i64 0) (.string ⟨#[]⟩) (.string ⟨#[]⟩) (.string ⟨#[]⟩) (.slice none 0 0))
     go_wp2_with fail
     (try simp only[Exit.inBlock,Exit.then])
     refine bodyPost_ret (ret_msg3 rfl _ _ w.heap.size _ rfl Hfin.out rfl) rfl ?_
     unfold GetIs2
     rw[Hg.out]
     exact⟨.slice none 0 0,rfl,.inl ⟨rfl,none,0,rfl⟩,Cfin.out,fun _ _ _ h=>by cases h⟩
    ·have Hg:=box (show getS RightP s=(⟨v1,v2,v3,v4,v5,v6,v7,v8,v9,L⟩,(k:Int),0) by rw[hget.out,if_pos (Hdef.out.1 (of_decide_eq_true Hq.out))])
     go_upto_region 24 with (fail)
     obtain⟨w7,hw7⟩:∃X,w6.alloc (.cells (msgA ⟨v1,v2,v3,v4,v5,v6,v7,v8,v9,L⟩ (.slice ka L.length kcap)) 63)=X:=⟨_,rfl⟩
     rw[hw7]at Z7 W7 S7 N7
     rw[hw7]
     clear hw7
     have z0:=cell_of Z7.out 0
     have z1:=cell_of Z7.out 1
     have z2:=cell_of Z7.out 2
     have z3:=cell_of Z7.out 3
     have z4:=cell_of Z7.out 4
     have z5:=cell_of Z7.out 5
     have z6:=cell_of Z7.out 6
     have z7:=cell_of Z7.out 7
     have z8:=cell_of Z7.out 8
     have z9:=cell_of Z7.out 9
     have f0:=free_of Z7.out 0
     have f1:=free_of Z7.out 1
     have f2:=free_of Z7.out 2
     have f3:=free_of Z7.out 3
     have f4:=free_of Z7.out 4
     have f5:=free_of Z7.out 5
     have f6:=free_of Z7.out 6
     have f7:=free_of Z7.out 7
     have f8:=free_of Z7.out 8
     have f9:=free_of Z7.out 9
     have hlz:=heap_lt Z7.out
     have n0:=cell_of N7.out 0
     have n1:=cell_of N7.out 1
     have n2:=cell_of N7.out 2
     have n3:=cell_of N7.out 3
     have n4:=cell_of N7.out 4
     have n5:=cell_of N7.out 5
     have n6:=cell_of N7.out 6
     have n7:=cell_of N7.out 7
     have n8:=cell_of N7.out 8
     have n9:=cell_of N7.out 9
     have hn7:=heap_lt N7.out
     have Hfin:=box (put_msg (w:=w7) (b:=w.heap.size) (Z7.out) rfl (.int .i64 v1) (.int .i64 v2) (.int .i64 v3) (.int .i64 v4) (.int .i64 v5) (.int .i64 v6) (.string v7) (.string v8) (.string v9) (.slice ka L.length kcap))
     have Cfin:=box (calm_put_msg (a:=w) (w:=w7) (W7.out) (b:=w.heap.size) (Nat.le_refl _) (.int .i64 v1) (.int .i64 v2) (.int .i64 v3) (.int .i64 v4) (.int .i64 v5) (.int .i64 v6) (.string v7) (.string v8) (.string v9) (.slice ka L.length kcap))
     have Hk:=box (strs_keep S7.out (keeps_put_msg (w:=w7) (Keeps.refl (fun b=>b=w.heap.size) _) (b:=w.heap.size) rfl (.int .i64 v1) (.int .i64 v2) (.int .i64 v3) (.int .i64 v4) (.int .i64 v5) (.int .i64 v6) (.string v7) (.string v8) (.string v9) (.slice ka L.length kcap)) (fun a n c e hn hf=>by have:=FR.out a n c e hn;omega))
     go_wp2_with fail
     (try simp only[Exit.inBlock,Exit.then])
     refine bodyPost_ret (ret_msg3 rfl _ _ w.heap.size _ rfl Hfin.out rfl) rfl ?_
     unfold GetIs2
     rw[Hg.out]
     exact⟨.slice ka L.length kcap,rfl,Hk.out,Cfin.out,fun a n c e hn=>Nat.le_of_lt (FR.out a n c e hn)⟩
  ·have Hg:=box (show getS RightP s=(zeroM,0,3) by rw[hget.out,if_pos he])
   have e1:(R3.e==0)=false:=beq_eq_false_iff_ne.2 he
   have e2:(R3.e != 0)=true:=by rw[bne,e1];rfl
   have HE:=box (fun (W:World) (h:RdrAt W rb R3)=>cE.out rb W h)
   clear he
   go_wp2_with fail
   refine(HE.out _ X3.out).mono ?_
   rintro e w' ⟨rfl,rfl⟩
   have Hfin:=box (put_msg (w:=w4) (b:=w.heap.size) (Z4.out) rfl (.int .i64 0) (.int .i64 0) (.int .i64 0) (.int .i64 0) (.int .i64 0) (.int .i64 0) (.string ⟨#[]⟩) (.string ⟨#[]⟩) (.string ⟨#[]⟩) (.slice none 0 0))
   have Cfin:=box (calm_put_msg (a:=w) (w:=w4) (W4.out) (b:=w.heap.size) (Nat.le_refl _) (.int .i64 0) (.int .i64 0) (.int .i64 0) (.int .i64 0) (.int .i64 0) (.int .i64 0) (.string ⟨#[]⟩) (.string ⟨#[]⟩) (.string ⟨#[]⟩) (.slice none 0 0))
   go_wp2_with fail
   (try simp only[Exit.inBlock,Exit.then])
   refine bodyPost_ret (ret_msg3 rfl _ _ w.heap.size _ rfl Hfin.out rfl) rfl ?_
   unfold GetIs2
   rw[Hg.out]
   exact⟨.slice none 0 0,rfl,.inl ⟨rfl,none,0,rfl⟩,Cfin.out,fun _ _ _ h=>by cases h⟩
 ·have ea:a=blankC:=of_list h0
  have hg0:=Hget.out
  rw[if_neg (fun h=>h.2.2 ea)]at hg0
  have Hea:=box ea
  have hget:=box hg0
  clear ea Hget hg0
  by_cases hs3:s.size<3
  ·have Hg:=box (show getS RightP s=(zeroM,0,3) by rw[hget.out,if_pos hs3])
   have Hfin:=box (put_msg (w:=w4) (b:=w.heap.size) (Z4.out) rfl (.int .i64 0) (.int .i64 0) (.int .i64 0) (.int .i64 0) (.int .i64 0) (.int .i64 0) (.string ⟨#[]⟩) (.string ⟨#[]⟩) (.string ⟨#[]⟩) (.slice none 0 0))
   have Cfin:=box (calm_put_msg (a:=w) (w:=w4) (W4.out) (b:=w.heap.size) (Nat.le_refl _) (.int .i64 0) (.int .i64 0) (.int .i64 0) (.int .i64 0) (.int .i64 0) (.int .i64 0) (.string ⟨#[]⟩) (.string ⟨#[]⟩) (.string ⟨#[]⟩) (.slice none 0 0))
   go_wp2_with fail
   (try simp only[Exit.inBlock,Exit.then])
   refine bodyPost_ret (ret_msg3 rfl _ _ w.heap.size _ rfl Hfin.out rfl) rfl ?_
   unfold GetIs2
   rw[Hg.out]
   exact⟨.slice none 0 0,rfl,.inl ⟨rfl,none,0,rfl⟩,Cfin.out,fun _ _ _ h=>by cases h⟩
  have hget:=box (hget.out.trans (if_neg hs3))
  by_cases hn3:(k:Int)<3∨1024<(k:Int)
  ·have Hg:=box (show getS RightP s=(zeroM,0,4) by rw[hget.out,if_pos (hn3.imp id fun h=>⟨Hea.out,h⟩)])
   have hn3':(k:Int)<3∨(3≤(k:Int)∧1024<(k:Int)):=by omega
   clear hn3
   rcases hn3' with hn3|⟨hn3,hn4⟩
   all_goals
    have Hfin:=box (put_msg (w:=w4) (b:=w.heap.size) (Z4.out) rfl (.int .i64 0) (.int .i64 0) (.int .i64 0) (.int .i64 0) (.int .i64 0) (.int .i64 0) (.string ⟨#[]⟩) (.string ⟨#[]⟩) (.string ⟨#[]⟩) (.slice none 0 0))
    have Cfin:=box (calm_put_msg (a:=w) (w:=w4) (W4.out) (b:=w.heap.size) (Nat.le_refl _) (.int .i64 0) (.int .i64 0) (.int .i64 0) (.int .i64 0) (.int .i64 0) (.int .i64 0) (.string ⟨#[]⟩) (.string ⟨#[]⟩) (.string ⟨#[]⟩) (.slice none 0 0))
    go_wp2_with fail
    (try simp only[Exit.inBlock,Exit.then])
    refine bodyPost_ret (ret_msg3 rfl _ _ w.heap.size _ rfl Hfin.out rfl) rfl ?_
    unfold GetIs2
    rw[Hg.out]
    exact⟨.slice none 0 0,rfl,.inl ⟨rfl,none,0,rfl⟩,Cfin.out,fun _ _ _ h=>by cases h⟩
  have hget:=box (hget.out.trans (if_neg (fun h=>hn3 (h.imp id fun h=>h.2))))
  have hn3a:3≤(k:Int):=by omega
  have hn3b:(k:Int)≤1024:=by omega
  clear hn3
  by_cases he:R3.e=0
  ·have hget:=box (hget.out.trans (if_neg (fun h=>h he)))
   have HE:=box (fun (W:World) (h:RdrAt W rb R3)=>(show Calls Tryz.prog 121 #[.pointer (some ⟨rb,0,none⟩)] W fun e w'=>e=.returned (.int .i64 0)∧W=w' from by
    have:=cE.out rb W h
    rwa[he]at this))
   clear he
   by_cases hz:t=zerosB t.size
   ·have Hg:=box (hget.out.trans ((if_neg (fun h=>h.2 hz)).trans (if_pos Hea.out)))
    rw[Int.toNat_natCast]at Hg
    have hzt:(t.toList==(zerosB t.size).toList)=true:=by rw[←hz];exact beq_self_eq_true _
    clear hz
    go_wp2_with fail
    refine(HE.out _ X3.out).mono ?_
    rintro e w' ⟨rfl,rfl⟩
    go_wp2_with fail
    refine(cZ.out t.size _ lt).mono ?_
    rintro e w5 ⟨rfl,hc5⟩
    have Z5:=box (heap_calm hc5 Z4.out)
    have W5:=box (Calm.trans W4.out hc5)
    clear hc5
    clear z0 z1 z2 z3 z4 z5 z6 z7 z8 z9 f0 f1 f2 f3 f4 f5 f6 f7 f8 f9 hlz
    go_wp2_with fail
    refine(cZ.out k _ (by omega)).mono ?_
    rintro e w6 ⟨rfl,hc6⟩
    have Z6:=box (heap_calm hc6 Z5.out)
    have W6:=box (Calm.trans W5.out hc6)
    clear hc6
    have z0:=cell_of Z6.out 0
    have z1:=cell_of Z6.out 1
    have z2:=cell_of Z6.out 2
    have z3:=cell_of Z6.out 3
    have z4:=cell_of Z6.out 4
    have z5:=cell_of Z6.out 5
    have z6:=cell_of Z6.out 6
    have z7:=cell_of Z6.out 7
    have z8:=cell_of Z6.out 8
    have z9:=cell_of Z6.out 9
    have f0:=free_of Z6.out 0
    have f1:=free_of Z6.out 1
    have f2:=free_of Z6.out 2
    have f3:=free_of Z6.out 3
    have f4:=free_of Z6.out 4
    have f5:=free_of Z6.out 5
    have f6:=free_of Z6.out 6
    have f7:=free_of Z6.out 7
    have f8:=free_of Z6.out 8
    have f9:=free_of Z6.out 9
    have hlz:=heap_lt Z6.out
    have Hfin:=box (put_msg (w:=w6) (b:=w.heap.size) (Z6.out) rfl (.int .i64 0) (.int .i64 0) (.int .i64 0) (.int .i64 0) (.int .i64 0) (.int .i64 0) (.string ⟨#[]⟩) (.string ⟨#[]⟩) (.string (zerosB k)) (.slice none 0 0))
    have Cfin:=box (calm_put_msg (a:=w) (w:=w6) (W6.out) (b:=w.heap.size) (Nat.le_refl _) (.int .i64 0) (.int .i64 0) (.int .i64 0) (.int .i64 0) (.int .i64 0) (.int .i64 0) (.string ⟨#[]⟩) (.string ⟨#[]⟩) (.string (zerosB k)) (.slice none 0 0))
    go_wp2_with fail
    (try simp only[Exit.inBlock,Exit.then])
    refine bodyPost_ret (ret_msg3 rfl _ _ w.heap.size _ rfl Hfin.out rfl) rfl ?_
    unfold GetIs2
    rw[Hg.out]
    exact⟨.slice none 0 0,rfl,.inl ⟨rfl,none,0,rfl⟩,Cfin.out,fun _ _ _ h=>by cases h⟩
   ·have Hg:=box (hget.out.trans (if_pos ⟨Hea.out,hz⟩))
    have hzt:(t.toList==(zerosB t.size).toList)=false:=toList_ne hz
    clear hz
    go_wp2_with fail
    refine(HE.out _ X3.out).mono ?_
    rintro e w' ⟨rfl,rfl⟩
    go_wp2_with fail
    refine(cZ.out t.size _ lt).mono ?_
    rintro e w5 ⟨rfl,hc5⟩
    have Z5:=box (heap_calm hc5 Z4.out)
    have W5:=box (Calm.trans W4.out hc5)
    clear hc5
    clear z0 z1 z2 z3 z4 z5 z6 z7 z8 z9 f0 f1 f2 f3 f4 f5 f6 f7 f8 f9 hlz
    have z0:=cell_of Z5.out 0
    have z1:=cell_of Z5.out 1
    have z2:=cell_of Z5.out 2
    have z3:=cell_of Z5.out 3
    have z4:=cell_of Z5.out 4
    have z5:=cell_of Z5.out 5
    have z6:=cell_of Z5.out 6
    have z7:=cell_of Z5.out 7
    have z8:=cell_of Z5.out 8
    have z9:=cell_of Z5.out 9
    have f0:=free_of Z5.out 0
    have f1:=free_of Z5.out 1
    have f2:=free_of Z5.out 2
    have f3:=free_of Z5.out 3
    have f4:=free_of Z5.out 4
    have f5:=free_of Z5.out 5
    have f6:=free_of Z5.out 6
    have f7:=free_of Z5.out 7
    have f8:=free_of Z5.out 8
    have f9:=free_of Z5.out 9
    have hlz:=heap_lt Z5.out
    have Hfin:=box (put_msg (w:=w5) (b:=w.heap.size) (Z5.out) rfl (.int .i64 0) (.int .i64 0) (.int .i64 0) (.int .i64 0) (.int .i64 0) (.int .i64 0) (.string ⟨#[]⟩) (.string ⟨#[]⟩) (.string ⟨#[]⟩) (.slice none 0 0))
    have Cfin:=box (calm_put_msg (a:=w) (w:=w5) (W5.out) (b:=w.heap.size) (Nat.le_refl _) (.int .i64 0) (.int .i64 0) (.int .i64 0) (.int .i64 0) (.int .i64 0) (.int .i64 0) (.string ⟨#[]⟩) (.string ⟨#[]⟩) (.string ⟨#[]⟩) (.slice none 0 0))
    go_wp2_with fail
    (try simp only[Exit.inBlock,Exit.then])
    refine bodyPost_ret (ret_msg3 rfl _ _ w.heap.size _ rfl Hfin.out rfl) rfl ?_
    unfold GetIs2
    rw[Hg.out]
    exact⟨.slice none 0 0,rfl,.inl ⟨rfl,none,0,rfl⟩,Cfin.out,fun _ _ _ h=>by cases h⟩
  ·have Hg:=box (show getS RightP s=(zeroM,0,3) by rw[hget.out,if_pos he])
   have e1:(R3.e==0)=false:=beq_eq_false_iff_ne.2 he
   have e2:(R3.e != 0)=true:=by rw[bne,e1];rfl
   have HE:=box (fun (W:World) (h:RdrAt W rb R3)=>cE.out rb W h)
   clear he
   go_wp2_with fail
   refine(HE.out _ X3.out).mono ?_
   rintro e w' ⟨rfl,rfl⟩
   have Hfin:=box (put_msg (w:=w4) (b:=w.heap.size) (Z4.out) rfl (.int .i64 0) (.int .i64 0) (.int .i64 0) (.int .i64 0) (.int .i64 0) (.int .i64 0) (.string ⟨#[]⟩) (.string ⟨#[]⟩) (.string ⟨#[]⟩) (.slice none 0 0))
   have Cfin:=box (calm_put_msg (a:=w) (w:=w4) (W4.out) (b:=w.heap.size) (Nat.le_refl _) (.int .i64 0) (.int .i64 0) (.int .i64 0) (.int .i64 0) (.int .i64 0) (.int .i64 0) (.string ⟨#[]⟩) (.string ⟨#[]⟩) (.string ⟨#[]⟩) (.slice none 0 0))
   go_wp2_with fail
   (try simp only[Exit.inBlock,Exit.then])
   refine bodyPost_ret (ret_msg3 rfl _ _ w.heap.size _ rfl Hfin.out rfl) rfl ?_
   unfold GetIs2
   rw[Hg.out]
   exact⟨.slice none 0 0,rfl,.inl ⟨rfl,none,0,rfl⟩,Cfin.out,fun _ _ _ h=>by cases h⟩
 ·have Hg:=box (show getS RightP s=(zeroM,0,4) by rw[Hget.out,if_pos ⟨fun e=>(by rw[e,Lib.toList_data]at h0;revert h0;decide),fun e=>(by rw[e,Lib.toList_data]at h1;revert h1;decide),fun e=>(by rw[e,Lib.toList_data]at h2;revert h2;decide)⟩])
  have Hfin:=box (put_msg (w:=w4) (b:=w.heap.size) (Z4.out) rfl (.int .i64 0) (.int .i64 0) (.int .i64 0) (.int .i64 0) (.int .i64 0) (.int .i64 0) (.string ⟨#[]⟩) (.string ⟨#[]⟩) (.string ⟨#[]⟩) (.slice none 0 0))
  have Cfin:=box (calm_put_msg (a:=w) (w:=w4) (W4.out) (b:=w.heap.size) (Nat.le_refl _) (.int .i64 0) (.int .i64 0) (.int .i64 0) (.int .i64 0) (.int .i64 0) (.int .i64 0) (.string ⟨#[]⟩) (.string ⟨#[]⟩) (.string ⟨#[]⟩) (.slice none 0 0))
  go_wp2_with fail
  (try simp only[Exit.inBlock,Exit.then])
  refine bodyPost_ret (ret_msg3 rfl _ _ w.heap.size _ rfl Hfin.out rfl) rfl ?_
  unfold GetIs2
  rw[Hg.out]
  exact⟨.slice none 0 0,rfl,.inl ⟨rfl,none,0,rfl⟩,Cfin.out,fun _ _ _ h=>by cases h⟩
theorem Get_any (b:Nat) (s:ByteArray) (w:World) (ht:TabAt w b 1024) (hs:s.size≤1000000) :
  Calls Tryz.prog 72 #[.pointer (some ⟨b,0,none⟩),.string s] w (GetIs (getS RightP s).1 (getS RightP s).2.1 (getS RightP s).2.2 w) :=
 (Get_fresh b s w ht hs).mono fun _ _ ⟨kv,h1,h2,h3,_⟩=>⟨kv,h1,h2,h3⟩
end Go.Proofs.YtiahjipoofeliaaGreatDoor.rc

namespace Go.Proofs.YtiahjipoofeliaaGreatDoor.tp
open Go.ChangeShapes Go.WideShapes Go.ChangeAt Go.RowKit Go.ChangeMaps
open rc oc cr dk sg
def BornIs (L:List (Nat×MsgS)) (last:Int):Prop:=∀x,L.getLast? = some x→last=x.2.born
theorem BornIs.nil (k:Int):BornIs [] k:=fun x h=>by cases h
theorem BornIs.snoc (L:List (Nat×MsgS)) (x:Nat×MsgS):BornIs (L++[x]) x.2.born:=fun y h=>by
 rw[List.getLast?_concat]at h
 rw[←Option.some.inj h]
section
variable {W w w':World} {t p n r sb mb:Nat} {D D':DiskS} {R R':RowS} {L:List (Nat×MsgS)} {last:Int} {F F':Nat→Prop} {v v' iv:Value}
theorem flat_take (ps:List Pc) (tl:List UInt8) {k:Nat} (hk:k<ps.length):∃rest,(flat ps++tl).drop (flat (ps.take k)).length=ps[k].list++rest∧(flat (ps.take (k+1))).length=(flat (ps.take k)).length+ps[k].len∧(flat (ps.take k)).length+ps[k].len≤(flat ps).length:=by
 have h1:ps=ps.take k++ps[k] :: ps.drop (k+1):=by rw[List.getElem_cons_drop,List.take_append_drop]
 have h2:ps.take (k+1)=ps.take k++[ps[k]]:=by rw[List.take_succ_eq_append_getElem hk]
 have h3:flat ps=flat (ps.take k)++(ps[k].list++flat (ps.drop (k+1))):=by
  rw[←flat_cons,←flat_append,←h1]
 refine⟨flat (ps.drop (k+1))++tl,?_,?_,?_⟩
 ·rw[h3,List.append_assoc,List.drop_left,List.append_assoc]
 ·rw[h2,flat_snoc,List.length_append];rfl
 ·rw[h3,List.length_append,List.length_append]
  show _+ps[k].list.length≤_
  omega
theorem fit_take {ps:List Pc} {a:Nat} (h:FitL a ps) {k:Nat} (hk:k<ps.length):FitL a (ps.take k)∧ps[k].Fit (a+(flat (ps.take k)).length):=by
 have h1:ps=ps.take k++ps[k] :: ps.drop (k+1):=by rw[List.getElem_cons_drop,List.take_append_drop]
 rw[h1,fitL_append]at h
 exact⟨h.1,h.2.1⟩
theorem left_calm {f:FuncId} {args:Array Value} {w:World} {x:Value} (h:Calls Tryz.prog f args w fun e w'=>e=.returned x∧∃n,w'=w.drewN n):Calls Tryz.prog f args w fun e w'=>e=.returned x∧Calm w w' :=
 h.mono fun _ _ ⟨he,n,hw⟩=>⟨he,hw ▸ (Calm.refl w).drewN n⟩
def ScanAt (W:World) (t p n r sb mb:Nat) (D:DiskS) (R:RowS) (F:Nat→Prop) (v:Value) (ps:List Pc) (w0:World) (wr:World):Prop :=
 ∃iv last,TpIn W wr t p n r sb mb D R (recs R.start ps) last F v iv∧Step (tfoot t r sb mb F v (.slice none 0 0)) w0 (tfoot t r sb mb F v iv) wr∧BornIs (recs R.start ps) last
theorem ScanAt.calm {ps:List Pc} {w0:World} (h:ScanAt W t p n r sb mb D R F v ps w0 w) (hc:Calm w w'):ScanAt W t p n r sb mb D R F v ps w0 w':=by
 obtain⟨iv,last,h1,h2,h3⟩:=h
 exact⟨iv,last,h1.calm hc,h2.calm hc,h3⟩
theorem ScanAt.note {ps:List Pc} {w0:World} (h:ScanAt W t p n r sb mb D R F v ps w0 w) {pc:Pc} (hf:FitL R.start ps) (hp:pc.Fit (R.start+(flat ps).length)) (hl:ps.length≤1000000) (kv:Value) :
  Calls Tryz.prog 65 #[ptrTo t,.int .i64 ((R.start+(flat ps).length:Nat):Int),.int .i64 (pc.len:Int),.agg (msgA pc.msg kv)] w fun e w'=>e=.returned (.tuple #[])∧ScanAt W t p n r sb mb D R F v (ps++[pc]) w0 w':=by
 obtain⟨iv,last,h1,h2,h3⟩:=h
 cases pc with
 | fill k =>
  refine(note_fill (fillM k) kv _ _ w h1 rfl).mono ?_
  rintro e w' ⟨rfl,iv',h4,h5⟩
  exact⟨rfl,iv',last,by rw[recs_fill];exact h4,h2.trans h5,by rw[recs_fill];exact h3⟩
 | one m =>
  have hlen:(recs R.start ps).length≤ps.length:=by
   clear h1 h2 h3 hf hp
   generalize R.start=a
   induction ps generalizing a with
   | nil=>exact Nat.le_refl _
   | cons q ps ih =>
    cases q with
    | fill k=>exact Nat.le_trans (ih (by simp at hl;omega) _) (by simp)
    | one m=>show (recs _ ps).length+1≤_;have:=ih (by simp at hl;omega) (a+(Pc.one m).len);simp;omega
  rw[Pc.len_one]
  refine(note_any m kv _ w h1 hp.2.2.2 (fun x hx e=>?_) (by omega)).mono ?_
  ·have:=recs_range ps _ hf x hx
   have:=(recB_bounds this.2.2.1 this.2.2.2.1).1
   omega
  rintro e w' ⟨rfl,iv',h4,h5⟩
  exact⟨rfl,iv',m.born,by rw[recs_one];exact h4,h2.trans h5,by rw[recs_one];exact BornIs.snoc _ _⟩
set_option maxHeartbeats 8000000 in
theorem scan_any (ps:List Pc) (tl:List UInt8) (w:World) (h:TpIn W w t p n r sb mb D R [] 0 F v (.slice none 0 0)) (hH:Holds D R (flat ps++tl)) (ha:Alive D) (hf:FitL R.start ps) (hz:R.size=1024) (hno:NoPc (R.start+(flat ps).length) tl) (hpl:ps.length≤1000000) :
  Calls Tryz.prog 56 #[ptrTo t] w fun e w'=>e=.returned (.int .i64 ((R.start+(flat ps).length:Nat):Int))∧ScanAt W t p n r sb mb D R F v ps w w':=by
 have hsz:=hH.size
 have hle:=hH.ok.le
 rw[List.length_append]at hsz
 have Hsz:=box hsz
 have hbeg:=box (fun W' (hc:Calm w W')=>Begin_any W' (h.seg.row.calm hc))
 obtain⟨c0,c1,c2,c3,c4,clt⟩:=h.cells
 have H0:=box (show ScanAt W t p n r sb mb D R F v (ps.take 0) w w from ⟨_,0,by rw[List.take_zero];exact h,Step.refl _ _,by rw[List.take_zero];exact BornIs.nil _⟩)
 have HH:=box hH
 have HA:=box ha
 have HF:=box hf
 have HN:=box hno
 clear h hH ha hf hno
 go_enter Tryz.func56,Tryz.ntmps56
 go_wp2_with fail
 refine(hbeg.out _ (Calm.refl _)).mono ?_
 rintro e w1 ⟨rfl,rfl⟩
 clear hbeg
 go_wp2_with fail
 go_loopw [3] (fun av wr=>∃k:Nat,k≤ps.length∧av=.int .i64 ((R.start+(flat (ps.take k)).length:Nat):Int)∧Box (ScanAt W t p n r sb mb D R F v (ps.take k) w wr)) (fun av _=>R.fin-(intOf av).toNat)
 case atStart=>exact⟨0,Nat.zero_le _,by simp [flat_nil],H0⟩
 case round =>
  clear c0 c1 c2 c3 c4 clt H0
  obtain⟨k,hk,rfl,HS⟩:=hrel
  obtain⟨iv,last,hT,hSt,hB⟩:=HS.out
  have HT:=box hT
  obtain⟨c0,c1,c2,c3,c4,clt⟩:=hT.cells
  have hend:=box (fun W' (hc:Calm wr W')=>End_any W' (HT.out.seg.row.calm hc))
  have hlf:=box (fun W' (hc:Calm wr W')=>left_calm (Left_any ((R.start+(flat (ps.take k)).length:Nat):Int) W' (HT.out.seg.row.calm hc)))
  have hrd:=box (fun W' (hc:Calm wr W')=>Read_any ((R.start+(flat (ps.take k)).length:Nat):Int) (R.left ((R.start+(flat (ps.take k)).length:Nat):Int):Int) W' (HT.out.seg.drew hc))
  have hget:=box (fun (s:ByteArray) (hs:s.size≤1000000) W' (hc:Calm wr W')=>Get_any sb s W' (heap_calm hc HT.out.sums) hs)
  clear hT hSt hB
  by_cases hkl:k<ps.length
  ·obtain⟨rest,e1,e2,e3⟩:=flat_take ps tl hkl
   obtain⟨f1,f2⟩:=fit_take HF.out hkl
   have hrr:=read_rest HH.out HA.out hz (a:=R.start+(flat (ps.take k)).length) (by omega) (by have:=f2.1;omega)
   rw[show R.start+(flat (ps.take k)).length-R.start=(flat (ps.take k)).length by omega,e1]at hrr
   have hgt:=rest_get f2 rest
   have hs1:(bA (restOf (R.start+(flat (ps.take k)).length) (ps[k].list++rest))).size≤1000000:=by
    rw[bA_size]
    unfold restOf
    exact Nat.le_trans (List.length_take_le _ _) (by unfold roomAt;omega)
   have hget1:=box (hget.out _ hs1)
   rw[hgt]at hget1
   rw[hrr.1]at hrd
   have hnote:=box (fun (kv:Value) W' (hc:Calm wr W')=>(HS.out.calm hc).note f1 f2 (by rw[List.length_take];omega) kv)
   rw[show ps.take k++[ps[k]]=ps.take (k+1) by rw[List.take_succ_eq_append_getElem hkl]]at hnote
   have hf3:=f2.2.1
   have hf4:=f2.1
   have HFL:=box (show R.start+(flat (ps.take (k+1))).length=R.start+(flat (ps.take k)).length+ps[k].len by rw[e2];omega)
   have hlo:=box (fun W'=>loose_any t (R.start+(flat (ps.take k)).length+ps[k].len) W' (by omega))
   have hl3:decide (roomAt (R.start+(flat (ps.take k)).length+ps[k].len)<3)=false:=decide_eq_false (by unfold roomAt;omega)
   rw[hl3]at hlo
   have hfin:R.start+(flat (ps.take k)).length+ps[k].len≤R.fin:=by omega
   obtain⟨sx,hsx⟩:∃sx,bA (restOf (R.start+(flat (ps.take k)).length) (ps[k].list++rest))=sx:=⟨_,rfl⟩
   rw[hsx]at hrd hget1
   obtain⟨lf,hlfE⟩:∃lf,R.left ((R.start+(flat (ps.take k)).length:Nat):Int)=lf:=⟨_,rfl⟩
   rw[hlfE]at hlf hrd
   obtain⟨pm,hpm⟩:∃pm,ps[k].msg=pm:=⟨_,rfl⟩
   rw[hpm]at hget1 hnote
   obtain⟨pl,hpl2⟩:∃pl,ps[k].len=pl:=⟨_,rfl⟩
   rw[hpl2]at hget1 hnote HFL hlo hfin hf4
   obtain⟨a,hae⟩:∃a,R.start+(flat (ps.take k)).length=a:=⟨_,rfl⟩
   rw[hae]at hrd hlf hnote hlo HFL hfin ⊢
   clear hsz hrr hgt hs1 hsx hlfE hpm hpl2 e1 e2 e3 f1 f2 hf3 hl3 hget hae
   have t1:decide (a<R.fin)=true:=decide_eq_true (by omega)
   have t1b:decide ((a:Int)<(R.fin:Int))=true:=decide_eq_true (by omega)
   go_wp2_with fail
   refine(hend.out _ (Calm.refl _)).mono ?_
   rintro e w2 ⟨rfl,rfl⟩
   have hS:=box (fun W' (hc:Calm wr W')=>(HT.out.calm hc).cells.1)
   go_upto_region 3 with fail
   go_region_held3 (fun w'=>w'.cell? ⟨t,0,none⟩=some (ptrTo r)) (first|go_keep|exact hS.out _ (by exact cm)) (first
    | (go_at_call 99;refine(hlf.out _ (by exact cm)).mono ?_;rintro e w5 ⟨rfl,hc5⟩)
    | (go_at_call 71;refine(hrd.out _ (by exact cm)).mono ?_;rintro e w6 ⟨rfl,hc6⟩))
   have HC6:=box (show Calm wr w6 by exact cm)
   clear hS hrd hlf hc5 hc6 c0 c1 c2 c3 c4 clt hend
   obtain⟨c0,c1,c2,c3,c4,clt⟩:=(HT.out.calm HC6.out).cells
   go_wp2_with fail
   refine(hget1.out _ HC6.out).mono ?_
   rintro e w7 ⟨kv,rfl,hk7,hc7⟩
   have HC7:=box (HC6.out.trans hc7)
   obtain⟨ka,kcap,rfl,_⟩:=hk7.uni
   obtain⟨kd,q,du,rt,rf,bn,tp,tg,bd,ks⟩:=pm
   have J8:=box (heap_new w7 (.cells (msgA ⟨kd,q,du,rt,rf,bn,tp,tg,bd,ks⟩ (.slice ka ks.length kcap)) 63))
   have HC8:=box (HC7.out.alloc (.cells (msgA ⟨kd,q,du,rt,rf,bn,tp,tg,bd,ks⟩ (.slice ka ks.length kcap)) 63))
   clear hk7 hc7 hget1 c0 c1 c2 c3 c4 clt
   have c0:=cell_of J8.out 0
   have c1:=cell_of J8.out 1
   have c2:=cell_of J8.out 2
   have c3:=cell_of J8.out 3
   have c4:=cell_of J8.out 4
   have c5:=cell_of J8.out 5
   have c6:=cell_of J8.out 6
   have c7:=cell_of J8.out 7
   have c8:=cell_of J8.out 8
   have c9:=cell_of J8.out 9
   have clt:=heap_lt J8.out
   have k1:IntKind.i64.wrap ((a:Int)+(pl:Int))=(a:Int)+(pl:Int):=IntWalk.i64_in _ (by omega)
   have k2:IntKind.i64.wrap ((a:Int)+(pl:Int)-(pl:Int))=(a:Int):=by rw[IntWalk.i64_in _ (by omega)];omega
   go_wp2_with fail
   refine(hlo.out _).mono ?_
   rintro e w9 ⟨rfl,rfl⟩
   go_wp2_with fail
   refine(hnote.out _ _ HC8.out).mono ?_
   rintro e w10 ⟨rfl,hS10⟩
   have HS10:=box hS10
   clear hS10 hnote c0 c1 c2 c3 c4 c5 c6 c7 c8 c9 clt
   go_wp2_with fail
   go_roundw
   case rel=>exact⟨k+1,by omega,by rw[HFL.out];go_num,HS10⟩
   case measure=>simp [intOf];omega
  ·obtain rfl:k=ps.length:=by omega
   rw[List.take_length]at HS hlf hrd ⊢
   have HS2:=box (fun W' (hc:Calm wr W')=>HS.out.calm hc)
   have hs0:(flat ps++tl).drop (flat ps).length=tl:=List.drop_left ..
   have hrr:=fun h1=>read_rest HH.out HA.out hz (a:=R.start+(flat ps).length) (by omega) h1
   rw[show R.start+(flat ps).length-R.start=(flat ps).length by omega,hs0]at hrr
   have hs1:(bA (restOf (R.start+(flat ps).length) tl)).size≤1000000:=by
    rw[bA_size]
    unfold restOf
    exact Nat.le_trans (List.length_take_le _ _) (by unfold roomAt;omega)
   have hget1:=box (hget.out _ hs1)
   obtain⟨⟨gm,gn,gc⟩,hg⟩:∃x,getS RightP (bA (restOf (R.start+(flat ps).length) tl))=x:=⟨_,rfl⟩
   have hbad:=HN.out
   unfold NoPc at hbad
   rw[hg]at hget1 hbad
   simp only at hbad
   have hlen:tl=[]↔R.fin=R.start+(flat ps).length:=by
    rw[←List.length_eq_zero_iff]
    have:=Hsz.out
    omega
   have hfle:R.start+(flat ps).length≤R.fin:=by have:=Hsz.out;omega
   obtain⟨lf,hlfE⟩:∃lf,R.left ((R.start+(flat ps).length:Nat):Int)=lf:=⟨_,rfl⟩
   rw[hlfE]at hlf hrd hrr
   obtain⟨sx,hsx⟩:∃sx,bA (restOf (R.start+(flat ps).length) tl)=sx:=⟨_,rfl⟩
   rw[hsx]at hget1 hrr
   obtain⟨a,hae⟩:∃a,R.start+(flat ps).length=a:=⟨_,rfl⟩
   rw[hae]at hrd hlf hlen hfle hrr ⊢
   have Hrr:=box hrr
   have Hae:=box hae
   clear hsz hrr hs0 hs1 hg hget hlfE hsx hae
   by_cases hend2:R.fin=a
   ·have t1:decide (a<R.fin)=false:=decide_eq_false (by omega)
    have t1b:decide ((a:Int)<(R.fin:Int))=false:=decide_eq_false (by omega)
    clear hbad hlen hget1
    go_wp2_with fail
    refine(hend.out _ (Calm.refl _)).mono ?_
    rintro e w2 ⟨rfl,rfl⟩
    go_wp2_with fail
    go_ret
    exact⟨by rw[Hae.out];rfl,HS2.out _ (Calm.refl _)⟩
   ·have hc0:gc≠0:=hbad.resolve_left (fun e=>hend2 (hlen.1 e))
    have t1:decide (a<R.fin)=true:=decide_eq_true (by omega)
    have t1b:decide ((a:Int)<(R.fin:Int))=true:=decide_eq_true (by omega)
    have t2:(gc != 0)=true:=by simpa using hc0
    have hr2:=(Hrr.out (by omega)).1
    rw[hr2]at hrd
    clear hbad hlen hend2 hr2 hc0
    go_wp2_with fail
    refine(hend.out _ (Calm.refl _)).mono ?_
    rintro e w2 ⟨rfl,rfl⟩
    have hS:=box (fun W' (hc:Calm wr W')=>(HT.out.calm hc).cells.1)
    go_upto_region 3 with fail
    go_region_held3 (fun w'=>w'.cell? ⟨t,0,none⟩=some (ptrTo r)) (first|go_keep|exact hS.out _ (by exact cm)) (first
     | (go_at_call 99;refine(hlf.out _ (by exact cm)).mono ?_;rintro e w5 ⟨rfl,hc5⟩)
     | (go_at_call 71;refine(hrd.out _ (by exact cm)).mono ?_;rintro e w6 ⟨rfl,hc6⟩))
    have HC6:=box (show Calm wr w6 by exact cm)
    clear hS hrd hlf hc5 hc6 c0 c1 c2 c3 c4 clt hend
    obtain⟨c0,c1,c2,c3,c4,clt⟩:=(HT.out.calm HC6.out).cells
    go_wp2_with fail
    refine(hget1.out _ HC6.out).mono ?_
    rintro e w7 ⟨kv,rfl,hk7,hc7⟩
    have HC7:=box (HC6.out.trans hc7)
    obtain⟨ka,kcap,rfl,_⟩:=hk7.uni
    have HC8:=box (HC7.out.alloc (.cells (msgA gm (.slice ka gm.keys.length kcap)) 63))
    obtain⟨kd,q,du,rt,rf,bn,tp,tg,bd,ks⟩:=gm
    clear hk7 hc7 hget1 c0 c1 c2 c3 c4 clt
    go_wp2_with fail
    go_ret
    exact⟨by rw[Hae.out];rfl,HS2.out _ HC8.out⟩
end
end Go.Proofs.YtiahjipoofeliaaGreatDoor.tp

namespace Go.Proofs.YtiahjipoofeliaaGreatDoor.tp
open Go.RowKit
open rc oc sg dk
def wl (b:Nat):Nat→List Pc→List WaitS
 | _,[]=>[]
 | off,q :: qs=>⟨b,off,bA q.list⟩ :: wl b (off+q.len) qs
theorem wl_app (b:Nat):∀(qs rs:List Pc) (off:Nat),wl b off (qs++rs)=wl b off qs++wl b (off+(flat qs).length) rs
 | [],rs,off=>rfl
 | q :: qs,rs,off=>by
  show _ :: wl b (off+q.len) (qs++rs)=_ :: (wl b (off+q.len) qs++_)
  rw[wl_app b qs rs,flat_len_cons,Nat.add_assoc]
inductive KeptOf:List WaitS→List WaitS→Prop
 | nil:KeptOf [] []
 | drop {x:WaitS} {X K:List WaitS}:KeptOf X K→KeptOf (x :: X) K
 | keep {x:WaitS} {X K:List WaitS}:KeptOf X K→KeptOf (x :: X) (x :: K)
 | torn {x:WaitS} {X:List WaitS} {y:WaitS}:y.blk=x.blk→y.off=x.off→y.s.data.toList <+: x.s.data.toList→KeptOf (x :: X) [y]
theorem KeptOf.none:∀X:List WaitS,KeptOf X []
 | []=>.nil
 | _ :: X=>.drop (KeptOf.none X)
theorem kept_zero (lack:Nat) (L:List WaitS):keptTo [] lack L (min ([]:List Bool).length L.length)=[]:=by
 unfold keptTo
 simp
theorem kept_step (k:Bool) (ks:List Bool) (lack:Nat) (x:WaitS) (L:List WaitS) :
  keptTo (k :: ks) lack (x :: L) (min (k :: ks).length (x :: L).length)=(if k then [{ x with s:=if (ks.take L.length).contains true then x.s else x.s.extract 0 (x.s.size-lack) }] else [])++keptTo ks lack L (min ks.length L.length):=by
 unfold keptTo
 rw[List.length_cons,List.length_cons,Nat.add_min_add_right,List.range_succ_eq_map,List.filterMap_cons,List.filterMap_map]
 have h1:(keptAt (k :: ks) lack (x :: L) ∘ Nat.succ)=keptAt ks lack L:=by
  funext i
  unfold keptAt
  simp
 rw[h1]
 unfold keptAt
 cases k<;>simp
theorem kept_false {ks:List Bool} {L:List WaitS} (lack:Nat) (h:(ks.take L.length).contains true=false):keptTo ks lack L (min ks.length L.length)=[]:=by
 unfold keptTo
 rw[List.filterMap_eq_nil_iff]
 intro i hi
 rw[List.mem_range]at hi
 unfold keptAt
 have hL:i<L.length:=by omega
 have hk:i<ks.length:=by omega
 rw[List.getElem?_eq_getElem hL]
 have h2:ks[i]=false:=by
  cases h3:ks[i] with
  | false=>rfl
  | true =>
   have:true∈ks.take L.length:=by
    rw[←h3]
    exact List.mem_take_iff_getElem.2 ⟨i,by omega,rfl⟩
   rw[List.contains_iff_mem.2 this]at h
   cases h
 have h3:ks[i]?.getD false=false:=by rw[List.getElem?_eq_getElem hk];exact h2
 simp [h3]
theorem kept_of (b lack:Nat):∀(L:List WaitS) (keep:List Bool),KeptOf (L.filter fun x=>decide (x.blk=b)) ((keptTo keep lack L (min keep.length L.length)).filter fun x=>decide (x.blk=b))
 | L,[]=>by rw[kept_zero];exact KeptOf.none _
 | [],k :: ks=>by
  have:keptTo (k :: ks) lack [] (min (k :: ks).length ([]:List WaitS).length)=[]:=by unfold keptTo;simp
  rw[this];exact .nil
 | x :: L,k :: ks=>by
  have ih:=kept_of b lack L ks
  rw[kept_step]
  by_cases hb:x.blk=b
  ·rw[List.filter_cons,if_pos (decide_eq_true hb)]
   cases k with
   | false=>exact .drop ih
   | true =>
    rw[if_pos rfl,List.singleton_append,List.filter_cons,if_pos (decide_eq_true (by exact hb))]
    cases hc:(ks.take L.length).contains true with
    | true=>rw[if_pos rfl];exact .keep ih
    | false =>
     rw[kept_false lack hc]
     refine .torn rfl rfl ?_
     show (x.s.extract 0 (x.s.size-lack)).data.toList <+: _
     rw[extract_list,List.drop_zero]
     exact List.take_prefix _ _
  ·rw[List.filter_cons,if_neg (by rw[decide_eq_false hb];exact Bool.false_ne_true)]
   cases k with
   | false=>exact ih
   | true =>
    rw[if_pos rfl,List.singleton_append,List.filter_cons,if_neg (by rw[decide_eq_false (by exact hb)];exact Bool.false_ne_true)]
    exact ih
theorem lays_filter (b:Nat):∀(K:List WaitS) (s:ByteArray),lays s b K=lays s b (K.filter fun x=>decide (x.blk=b))
 | [],s=>rfl
 | x :: K,s=>by
  by_cases hb:x.blk=b
  ·rw[List.filter_cons,if_pos (decide_eq_true hb)]
   show lays (if x.blk=b then _ else _) b K=lays (if x.blk=b then _ else _) b _
   rw[if_pos hb]
   exact lays_filter b K _
  ·rw[List.filter_cons,if_neg (by rw[decide_eq_false hb];exact Bool.false_ne_true)]
   show lays (if x.blk=b then _ else _) b K=_
   rw[if_neg hb]
   exact lays_filter b K _
def HoleAt (s0 cur:List UInt8):Prop:=cur=s0∨∃tl,cur=s0++0 :: tl
theorem laid_hole {s0 cur over:List UInt8} {off:Nat} (h:HoleAt s0 cur) (ho:s0.length<off):HoleAt s0 (laidL cur off over):=by
 unfold laidL
 by_cases h0:over=[]
 ·rw[if_pos h0];exact h
 rw[if_neg h0]
 right
 have hpos:0<over.length:=List.length_pos_iff.2 h0
 rcases h with rfl|⟨tl,rfl⟩
 ·unfold pad
  obtain⟨d,hd⟩:∃d,off=cur.length+(d+1):=⟨off-cur.length-1,by omega⟩
  subst hd
  rw[List.take_length_add_append,List.take_replicate]
  obtain⟨e,he⟩:∃e,min (d+1) (cur.length+(d+1)+over.length-cur.length)=e+1:=⟨d,by omega⟩
  rw[he,List.replicate_succ,List.append_assoc,List.append_assoc,List.cons_append]
  exact⟨_,rfl⟩
 ·unfold pad
  obtain⟨d,hd⟩:∃d,off=s0.length+(d+1):=⟨off-s0.length-1,by omega⟩
  subst hd
  rw[List.append_assoc s0,List.take_length_add_append,List.cons_append,List.take_succ_cons,List.append_assoc,List.append_assoc,List.cons_append]
  exact⟨_,rfl⟩
theorem lays_hole (b:Nat) (s0:List UInt8):∀(K:List WaitS) (s:ByteArray),(∀y∈K,s0.length<y.off)→HoleAt s0 s.data.toList→HoleAt s0 (lays s b K).data.toList
 | [],s,_,h=>h
 | x :: K,s,hK,h=>by
  show HoleAt s0 (lays (if x.blk=b then laid s x.off x.s else s) b K).data.toList
  refine lays_hole b s0 K _ (fun y hy=>hK y (List.mem_cons_of_mem _ hy)) ?_
  by_cases hb:x.blk=b
  ·rw[if_pos hb]
   show HoleAt s0 (laidL s.data.toList x.off x.s.data.toList)
   exact laid_hole h (hK x (List.mem_cons_self ..))
  ·rw[if_neg hb];exact h
def Broken (c:List Pc) (tl:List UInt8):Prop:=match c with
 | []=>tl=[]
 | q :: _=>(tl <+: q.list∧tl≠q.list)∨tl.head? = some 0
theorem broken_nil:∀c:List Pc,Broken c []
 | []=>rfl
 | q :: _=>.inl ⟨List.nil_prefix,fun e=>q.ne_nil e.symm⟩
theorem wl_off (b:Nat):∀(qs:List Pc) (off:Nat),∀y∈wl b off qs,off≤y.off
 | [],_,y,h=>by cases h
 | q :: qs,off,y,h=>by
  rcases List.mem_cons.1 h with rfl|h
  ·exact Nat.le_refl _
  ·have:=wl_off b qs _ y h;omega
theorem KeptOf.offs {X K:List WaitS} {n:Nat} (h:KeptOf X K):(∀y∈X,n≤y.off)→∀y∈K,n≤y.off:=by
 induction h with
 | nil=>exact fun h=>h
 | drop _ ih=>exact fun h=>ih fun y hy=>h y (List.mem_cons_of_mem _ hy)
 | keep _ ih =>
  intro h y hy
  rcases List.mem_cons.1 hy with rfl|hy
  ·exact h _ (List.mem_cons_self ..)
  ·exact ih (fun y hy=>h y (List.mem_cons_of_mem _ hy)) y hy
 | torn _ h2 _ =>
  intro h y hy
  rw[List.mem_singleton]at hy
  subst hy
  rw[h2]
  exact h _ (List.mem_cons_self ..)
theorem lays_pieces (b:Nat):∀(qs:List Pc) (off:Nat) (K:List WaitS) (s:ByteArray),s.size=off→KeptOf (wl b off qs) K →
  ∃a c tl,qs=a++c∧(lays s b K).data.toList=s.data.toList++(flat a++tl)∧Broken c tl
 | [],off,K,s,hs,h=>by
  cases h
  exact⟨[],[],[],rfl,by simp [lays,flat],rfl⟩
 | q :: qs,off,K,s,hs,h=>by
  have hq:0<q.len:=List.length_pos_iff.2 q.ne_nil
  have hsl:s.data.toList.length=off:=by rw[size_toList];exact hs
  change KeptOf (⟨b,off,bA q.list⟩ :: wl b (off+q.len) qs) K at h
  cases h with
  | drop h =>
   have ho:=h.offs (wl_off b qs (off+q.len))
   rcases lays_hole b s.data.toList K s (fun y hy=>by have:=ho y hy;omega) (.inl rfl) with e|⟨tl,e⟩
   ·exact⟨[],q :: qs,[],rfl,by rw[e,flat_nil,List.append_nil,List.append_nil],broken_nil _⟩
   ·exact⟨[],q :: qs,0 :: tl,rfl,by rw[e,flat_nil,List.nil_append],.inr rfl⟩
  | @keep _ _ K h =>
   have hl:(laid s off (bA q.list)).data.toList=s.data.toList++q.list:=by
    rw[←hs]
    have:=laid_grow s (bA q.list)
    rwa[bA_list]at this
   obtain⟨a,c,tl,h1,h2,h3⟩:=lays_pieces b qs (off+q.len) K (laid s off (bA q.list)) (by rw[←size_toList,hl,List.length_append,hsl];rfl) h
   refine⟨q :: a,c,tl,by rw[h1];rfl,?_,h3⟩
   show (lays (if b=b then laid s off (bA q.list) else s) b K).data.toList=_
   rw[if_pos rfl,h2,hl,flat_cons]
   simp only[List.append_assoc]
  | @torn _ _ y h1 h2 h3 =>
   have hy:(lays s b [y]).data.toList=s.data.toList++y.s.data.toList:=by
    show (if y.blk=b then laid s y.off y.s else s).data.toList=_
    rw[if_pos h1,h2]
    show (laid s off y.s).data.toList=_
    rw[←hs]
    exact laid_grow s y.s
   have h3:y.s.data.toList <+: q.list:=by have h4:=h3;simp only at h4;rwa[bA_list]at h4
   by_cases he:y.s.data.toList=q.list
   ·exact⟨[q],qs,[],rfl,by rw[hy,he,flat_cons,flat_nil];simp,broken_nil _⟩
   ·exact⟨[],q :: qs,y.s.data.toList,rfl,by rw[hy,flat_nil,List.nil_append],.inl ⟨h3,he⟩⟩
def catP (F:Nat→List Pc):Nat→List Pc
 | 0=>[]
 | n+1=>catP F n++F n
theorem catP_congr {F G:Nat→List Pc}:∀n,(∀i,i<n→F i=G i)→catP F n=catP G n
 | 0,_=>rfl
 | n+1,h=>by
  show catP F n++F n=catP G n++G n
  rw[catP_congr n (fun i hi=>h i (by omega)),h n (by omega)]
structure FileW (ws:List WaitS) (f:FileS) (ps qs:List Pc):Prop where
 image:f.image=bA (flat ps)
 now:f.now=bA (flat (ps++qs))
 waits:(ws.filter fun x=>decide (x.blk=f.blk))=wl f.blk (flat ps).length qs
structure WkAt (D:DiskS) (R:RowS) (ps:List Pc) (sf:Nat) (P Q:Nat→List Pc):Prop where
 all:ps=catP (fun i=>P i++Q i) R.cnt
 file:∀i,i<R.cnt→∀f,D.find (nameB R.head (R.start+i * R.size))=some f→FileW D.waits f (P i) (Q i)
 safe:∀i,i<R.cnt→min sf (catP (fun i=>P i++Q i) (i+1)).length≤(catP (fun i=>P i++Q i) i).length+(P i).length
 least:sf≤ps.length
def Wk (D:DiskS) (R:RowS) (ps:List Pc) (sf:Nat):Prop:=∃P Q,WkAt D R ps sf P Q
section
variable {D E:DiskS} {R R':RowS} {ps:List Pc} {sf:Nat} {b:List UInt8}
theorem catP_nil:∀n,catP (fun _=>([]:List Pc)++[]) n=[]
 | 0=>rfl
 | n+1=>by show catP _ n++_=[];rw[catP_nil n];rfl
theorem Wk.bare (h:D.files=[]):Wk D R [] 0 :=
 ⟨fun _=>[],fun _=>[],(catP_nil _).symm,fun i hi f he=>(by unfold DiskS.find at he;rw[h]at he;cases he),fun i hi=>(by rw[Nat.zero_min];exact Nat.zero_le _),Nat.le_refl _⟩
theorem Wk.same (h:Wk D R ps sf) (hf:E.files=D.files) (hw:E.waits=D.waits) (h1:R'.head=R.head) (h2:R'.size=R.size) (h3:R'.start=R.start) (h4:R'.cnt=R.cnt):Wk E R' ps sf:=by
 obtain⟨P,Q,a1,a2,a3,a4⟩:=h
 refine⟨P,Q,by rw[h4];exact a1,fun i hi f he=>?_,fun i hi=>a3 i (by omega),a4⟩
 rw[h1,h2,h3]at he
 rw[hw]
 refine a2 i (by omega) f ?_
 unfold DiskS.find at he ⊢
 rwa[hf]at he
theorem Wk.made (h:Wk D R ps sf) (hF:dk.Form D) {blk:Nat} (hb:∀f∈D.files,f.blk≠blk) {n:ByteArray} (hn:n=nameB R.head (R.start+R.cnt * R.size)) (hno:D.has n=false) (hfin:R.start+R.cnt * R.size<100000000) (hf:E.files=D.files++[⟨n,blk,⟨#[]⟩,⟨#[]⟩⟩]) (hw:E.waits=D.waits)
  (h1:R'.head=R.head) (h2:R'.size=R.size) (h3:R'.start=R.start) (h4:R'.cnt=R.cnt+1) (hz:0<R.size):Wk E R' ps sf:=by
 obtain⟨P,Q,a1,a2,a3,a4⟩:=h
 refine⟨fun i=>if i<R.cnt then P i else [],fun i=>if i<R.cnt then Q i else [],?_,fun i hi f he=>?_,fun i hi=>?_,a4⟩
 ·rw[h4]
  show _=catP _ R.cnt++((if R.cnt<R.cnt then P R.cnt else [])++if R.cnt<R.cnt then Q R.cnt else [])
  rw[if_neg (Nat.lt_irrefl _),if_neg (Nat.lt_irrefl _),List.append_nil,List.append_nil,a1]
  exact catP_congr _ fun i hi=>by rw[if_pos hi,if_pos hi]
 ·rw[h1,h2,h3]at he
  rw[hw]
  by_cases hc:i<R.cnt
  ·simp only[if_pos hc]
   rcases files_find hf he with he|he
   ·exact a2 i hc f he
   ·exfalso
    have:=plc_lt (size:=R.size) hc
    rw[hn]at he
    have:=name_inj (by omega) hfin he
    omega
  ·simp only[if_neg hc]
   obtain rfl:i=R.cnt:=by omega
   have hx:f=⟨n,blk,⟨#[]⟩,⟨#[]⟩⟩:=by
    unfold DiskS.find at he
    rw[hf,←hn,List.find?_append]at he
    have hnone:D.files.find? (fun f:FileS=>decide (f.name=n))=Option.none:=by
     unfold DiskS.has DiskS.find at hno
     cases hx:D.files.find? (fun f:FileS=>decide (f.name=n)) with
     | none=>rfl
     | some g=>rw[hx]at hno;cases hno
    rw[hnone]at he
    simp at he
    exact he.symm
   subst hx
   refine⟨rfl,rfl,?_⟩
   show _=[]
   rw[List.filter_eq_nil_iff]
   intro x hx e
   rw[decide_eq_true_eq]at e
   obtain⟨g,hg,e2⟩:=hF.live x hx
   exact hb g hg (e2.trans e)
 ·have hcat:∀j,j≤R.cnt→catP (fun i=>(if i<R.cnt then P i else [])++if i<R.cnt then Q i else []) j=catP (fun i=>P i++Q i) j:=fun j hj=>catP_congr _ fun i hi=>by rw[if_pos (by omega),if_pos (by omega)]
  by_cases hc:i<R.cnt
  ·rw[hcat _ (by omega),hcat _ (by omega)]
   simp only[if_pos hc]
   exact a3 i hc
  ·obtain rfl:i=R.cnt:=by omega
   rw[hcat _ (Nat.le_refl _),←a1]
   omega
theorem find_turned {n x:ByteArray} {N:FileS→ByteArray} (he:E.files=D.files.map fun y=>if y.name=n then { y with now:=N y } else y):E.find x=(D.find x).map fun y=>if y.name=n then { y with now:=N y } else y:=by
 unfold DiskS.find
 rw[he,List.find?_map]
 congr 1
 congr 1
 funext y
 simp only[Function.comp]
 split<;>rfl
theorem blk_inj (hF:dk.Form D) {x y:ByteArray} {f g:FileS} (hf:D.find x=some f) (hg:D.find y=some g) (h:f.blk=g.blk):x=y:=by
 obtain⟨f1,f2⟩:=find_some hf
 obtain⟨g1,g2⟩:=find_some hg
 obtain⟨i,hi,e1⟩:=List.getElem_of_mem f1
 obtain⟨j,hj,e2⟩:=List.getElem_of_mem g1
 have h1:(D.files.map (·.blk))[i]'(by rw[List.length_map];exact hi)=(D.files.map (·.blk))[j]'(by rw[List.length_map];exact hj):=by
  rw[List.getElem_map,List.getElem_map,e1,e2,h]
 have h2:i=j:=(List.getElem_inj hF.blks).1 h1
 subst h2
 rw[e1]at e2
 rw[←f2,←g2,e2]
theorem Wk.grew (h:Wk D R ps sf) (hF:dk.Form D) (h0:0<R.cnt) (hpl:∀i,i<R.cnt→R.start+i * R.size<100000000) (hz:0<R.size) {q:Pc} {f:FileS} (hfd:D.find (nameB R.head R.lastp)=some f) (hf:E.files=D.files.map fun x=>if x.name=nameB R.head R.lastp then { x with now:=laid x.now f.now.size (bA q.list) } else x)
  (hw:E.waits=D.waits++[⟨f.blk,f.now.size,bA q.list⟩]) (h1:R'.head=R.head) (h2:R'.size=R.size) (h3:R'.start=R.start) (h4:R'.cnt=R.cnt):Wk E R' (ps++[q]) sf:=by
 obtain⟨P,Q,a1,a2,a3,a4⟩:=h
 obtain⟨c,hc⟩:∃c,R.cnt=c+1:=⟨R.cnt-1,by omega⟩
 have hlp:R.lastp=R.start+c * R.size:=by rw[lastp_eq,hc];rfl
 rw[hlp]at hfd hf
 have hW:=a2 c (by omega) f hfd
 have hcat:∀j,j≤c→catP (fun i=>P i++if i=c then Q i++[q] else Q i) j=catP (fun i=>P i++Q i) j:=fun j hj=>catP_congr _ fun i hi=>by rw[if_neg (by omega)]
 have hlast:catP (fun i=>P i++if i=c then Q i++[q] else Q i) (c+1)=catP (fun i=>P i++Q i) (c+1)++[q]:=by
  show catP _ c++(P c++if c=c then Q c++[q] else Q c)=catP _ c++(P c++Q c)++[q]
  rw[hcat c (Nat.le_refl _),if_pos rfl,List.append_assoc,List.append_assoc]
 refine⟨P,fun i=>if i=c then Q i++[q] else Q i,?_,fun i hi g he=>?_,fun i hi=>?_,by rw[List.length_append];omega⟩
 ·rw[h4,hc,hlast,a1,hc]
 ·rw[h1,h2,h3]at he
  rw[find_turned hf]at he
  have hi:i<R.cnt:=by omega
  cases hg:D.find (nameB R.head (R.start+i * R.size)) with
  | none=>rw[hg]at he;cases he
  | some g0 =>
   rw[hg,Option.map_some,Option.some.injEq]at he
   have hG:=a2 i hi g0 hg
   have hgn:=(find_some hg).2
   by_cases hic:i=c
   ·subst hic
    rw[hfd,Option.some.injEq]at hg
    subst hg
    rw[if_pos hgn]at he
    subst he
    simp only[if_pos]
    refine⟨hG.image,?_,?_⟩
    ·show laid f.now f.now.size (bA q.list)=_
     refine ba_ext ?_
     rw[laid_grow,bA_list,bA_list,hG.now,bA_list,←List.append_assoc,flat_snoc]
    ·show _=wl f.blk _ _
     rw[hw,List.filter_append,hG.waits,wl_app]
     congr 1
     rw[List.filter_cons,if_pos (by simp),List.filter_nil]
     show [_]=[_]
     congr 2
     rw[hG.now,bA_size,flat_append,List.length_append]
   ·rw[if_neg (by
     rw[hgn]
     intro e
     have:=name_inj (hpl i hi) (hpl c (by omega)) e
     rcases Nat.lt_trichotomy i c with h5|h5|h5
     ·have:=plc_lt (size:=R.size) h5;omega
     ·exact hic h5
     ·have:=plc_lt (size:=R.size) h5;omega)]at he
    subst he
    simp only[if_neg hic]
    refine⟨hG.image,hG.now,?_⟩
    rw[hw,List.filter_append,hG.waits,List.filter_cons,if_neg (by
     rw[decide_eq_true_eq]
     intro e
     have h6:=blk_inj hF hfd hg e
     have:=name_inj (hpl c (by omega)) (hpl i hi) h6
     rcases Nat.lt_trichotomy i c with h5|h5|h5
     ·have:=plc_lt (size:=R.size) h5;omega
     ·exact hic h5
     ·have:=plc_lt (size:=R.size) h5;omega),List.filter_nil,List.append_nil]
 ·have hi:i<R.cnt:=by omega
  have h5:=a3 i hi
  by_cases hic:i=c
  ·subst hic
   have hl:ps.length=(catP (fun i=>P i++Q i) (i+1)).length:=by rw[a1,hc]
   rw[hlast,hcat i (Nat.le_refl _),List.length_append,List.length_singleton]
   omega
  ·rw[hcat (i+1) (by omega),hcat i (by omega)]
   exact h5
end
end Go.Proofs.YtiahjipoofeliaaGreatDoor.tp
