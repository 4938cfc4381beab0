/- Lemmas for this claim. -/
import Derived.Test.YtiahjipoofeliaaGreatDoorPk30
set_option maxRecDepth 100000
namespace Go.Proofs.YtiahjipoofeliaaGreatDoor.rc
open Go.ChangeShapes Go.WideShapes Go.ChangeAt Go.RowKit Go.Shelf
open nm vs oc cr
abbrev zeroA:Array Value:=#[.int .i64 0,.int .i64 0,.int .i64 0,.int .i64 0,.int .i64 0,.int .i64 0,.string ⟨#[]⟩,.string ⟨#[]⟩,.string ⟨#[]⟩,.slice none 0 0]
def OpenOk (s:ByteArray):Prop:=(openS s).2.end_=0∧(openS s).1.kind≠0∧RightP (openS s).1
instance (s:ByteArray):Decidable (OpenOk s):=by unfold OpenOk;exact inferInstance
def OpenDone (s:ByteArray) (w:World) (e:Ending) (w':World):Prop :=
 ∃kv,e=.returned (.tuple #[.agg (msgA (openS s).1 kv),.bool (decide (OpenOk s))])∧StrsAt w' kv (openS s).1.keys∧Calm w w'∧∀a n c,kv=.slice (some a) n c→0<n→w.heap.size≤a.block
theorem ret_msg2 {fn:Func} {p u:Tmp} (h:fn.results=#[.cell p 63,.tmp u]) (tmps:Array Value) (w:World) (b:Nat) (cs:Array Value)
  (hp:tmps.getD p undef=.pointer (some ⟨b,0,none⟩)) (hg:w.heap[b]? = some (.cells cs 63 (0,0))) (hc:cs.size=10) :
  (results fn tmps).run Tryz.prog w=.ok (.tuple #[.agg cs,tmps.getD u undef]) w:=by
 rw[results_cell_tmp h,hp]
 have hload:=run_loadVar_row (P:=Tryz.prog) w b 63 63 cs (0,0) _ hg Tryz.underlying63 rfl (by rw[msgSize,hc])
 simp [asAddr,hload,Result.andThen]
theorem heap_drew {w:World} {b:Nat} {o:Obj} (h:w.heap[b]? = some o):w.drew.heap[b]? = some o:=h
theorem strs_drew {w:World} {v:Value} {l:List ByteArray} (h:StrsAt w v l):StrsAt w.drew v l:=h
theorem take_le1 (R:Rdr) (n:Int):(R.take n).1.size≤R.s.size:=by
 unfold Rdr.take
 split;exact Nat.zero_le _
 split;exact Nat.zero_le _
 split;exact Nat.zero_le _
 simp only[ByteArray.size_extract];omega
theorem text_le1 (R:Rdr) (most:Int):(R.text most).1.size≤R.s.size:=by
 unfold Rdr.text
 split
 ·exact Nat.zero_le _
 ·simp only
  obtain⟨R2,h2⟩:∃R2,(if (R.num 2).2.e=0∧most<(R.num 2).1 then (⟨(R.num 2).2.s,6⟩:Rdr) else (R.num 2).2)=R2:=⟨_,rfl⟩
  have h3:R2.s.size≤R.s.size:=by
   have:=num_left R 2
   rw[←h2]
   split<;>exact this
  rw[h2]
  have h1:=Nat.le_trans (take_le1 R2 (R.num 2).1) h3
  split<;>exact h1
theorem texts_len (R:Rdr) (most:Int):∀k,(R.texts most k).1.length=k
 | 0=>rfl
 | k+1=>by unfold Rdr.texts;rw[List.length_append,texts_len R most k];rfl
theorem texts_le (R:Rdr) (most:Int):∀k,∀s∈(R.texts most k).1,s.size≤R.s.size
 | 0=>fun s h=>by cases h
 | k+1=>fun s h=>by
  unfold Rdr.texts at h
  rcases List.mem_append.1 h with h|h
  ·exact texts_le R most k s h
  ·rw[List.mem_singleton]at h
   rw[h]
   exact Nat.le_trans (text_le1 _ _) (texts_left R most k)
theorem list_le (R:Rdr) (many most:Int):(R.list many most).1.length≤255∧∀s∈(R.list many most).1,s.size≤R.s.size:=by
 unfold Rdr.list
 split
 ·exact⟨Nat.zero_le _,fun s h=>by cases h⟩
 ·have h1:(R.num 1).1<256:=by
   unfold Rdr.num
   split;exact(show (0:Int)<256 by decide)
   split;exact(show (0:Int)<256 by decide)
   have h1:(R.take 1).1.size≤1:=by
    unfold Rdr.take
    split;exact Nat.zero_le _
    split;exact Nat.zero_le _
    split;exact Nat.zero_le _
    simp only[ByteArray.size_extract];omega
   have h2:=getN_take (R.take 1).1.data.toList (R.take 1).1.data.toList.length (Nat.le_refl _)
   rw[List.take_length,size_toList]at h2
   have h3:256 ^ (R.take 1).1.size≤256 ^ 1:=Nat.pow_le_pow_right (by decide) h1
   simp only
   omega
  have h2:=num_left R 1
  simp only
  obtain⟨R2,h4⟩:∃R2,(if (R.num 1).2.e=0∧many<(R.num 1).1 then (⟨(R.num 1).2.s,6⟩:Rdr) else (R.num 1).2)=R2:=⟨_,rfl⟩
  have h3:R2.s.size≤R.s.size:=by
   rw[←h4]
   split<;>exact h2
  rw[h4]
  split
  ·exact⟨Nat.zero_le _,fun s h=>by cases h⟩
  ·exact⟨by rw[texts_len];omega,fun s h=>Nat.le_trans (texts_le _ _ _ s h) h3⟩
set_option maxHeartbeats 16000000 in
theorem opened_any (s:ByteArray) (w:World) (hs:s.size≤1000000):Calls Tryz.prog 124 #[.string s] w (OpenDone s w):=by
 have Z0:=box (heap_new w (.cells zeroA 63))
 have C0:=box ((Calm.refl w).alloc (.cells zeroA 63))
 obtain⟨⟨v1,R1⟩,h1⟩:∃r,(⟨s,0⟩:Rdr).num 1=r:=⟨_,rfl⟩
 have l1:R1.s.size≤1000000:=Nat.le_trans (by have:=num_left (⟨s,0⟩:Rdr) 1;rw[h1]at this;exact this) hs
 obtain⟨⟨v2,R2⟩,h2⟩:∃r,R1.num 1=r:=⟨_,rfl⟩
 have l2:R2.s.size≤1000000:=Nat.le_trans (by have:=num_left R1 1;rw[h2]at this;exact this) l1
 obtain⟨⟨v3,R3⟩,h3⟩:∃r,R2.num 1=r:=⟨_,rfl⟩
 have l3:R3.s.size≤1000000:=Nat.le_trans (by have:=num_left R2 1;rw[h3]at this;exact this) l2
 obtain⟨⟨v4,R4⟩,h4⟩:∃r,R3.num 6=r:=⟨_,rfl⟩
 have l4:R4.s.size≤1000000:=Nat.le_trans (by have:=num_left R3 6;rw[h4]at this;exact this) l3
 obtain⟨⟨v5,R5⟩,h5⟩:∃r,R4.num 6=r:=⟨_,rfl⟩
 have l5:R5.s.size≤1000000:=Nat.le_trans (by have:=num_left R4 6;rw[h5]at this;exact this) l4
 obtain⟨⟨v6,R6⟩,h6⟩:∃r,R5.num 6=r:=⟨_,rfl⟩
 have l6:R6.s.size≤1000000:=Nat.le_trans (by have:=num_left R5 6;rw[h6]at this;exact this) l5
 obtain⟨⟨v7,R7⟩,h7⟩:∃r,R6.text 16=r:=⟨_,rfl⟩
 have l7:R7.s.size≤1000000:=Nat.le_trans (by have:=texts_left.text_left R6 16;rw[h7]at this;exact this) l6
 obtain⟨⟨v8,R8⟩,h8⟩:∃r,R7.text 16=r:=⟨_,rfl⟩
 have l8:R8.s.size≤1000000:=Nat.le_trans (by have:=texts_left.text_left R7 16;rw[h8]at this;exact this) l7
 obtain⟨⟨v9,R9⟩,h9⟩:∃r,R8.text 200=r:=⟨_,rfl⟩
 have l9:R9.s.size≤1000000:=Nat.le_trans (by have:=texts_left.text_left R8 200;rw[h9]at this;exact this) l8
 obtain⟨⟨L,R10⟩,h10⟩:∃r,R9.list 3 16=r:=⟨_,rfl⟩
 have hopen:openS s=(⟨v1,v2,v5,v3,v6,v4,v7,v8,v9,L⟩,R10):=by unfold openS;simp only[h1,h2,h3,h4,h5,h6,h7,h8,h9,h10]
 have c1:=box (fun (rb:Nat) (W:World) (h:RdrAt W rb (⟨s,0⟩:Rdr))=>(show Calls Tryz.prog 120 #[.pointer (some ⟨rb,0,none⟩),.int .i64 1] W (RdrDone (.int .i64 v1) rb R1 W) from by
  have:=RNum_any rb (⟨s,0⟩:Rdr) 1 W h (Nat.le_trans hs (by decide))
  rwa[h1]at this))
 have c2:=box (fun (rb:Nat) (W:World) (h:RdrAt W rb R1)=>(show Calls Tryz.prog 120 #[.pointer (some ⟨rb,0,none⟩),.int .i64 1] W (RdrDone (.int .i64 v2) rb R2 W) from by
  have:=RNum_any rb R1 1 W h (Nat.le_trans l1 (by decide))
  rwa[h2]at this))
 have c3:=box (fun (rb:Nat) (W:World) (h:RdrAt W rb R2)=>(show Calls Tryz.prog 120 #[.pointer (some ⟨rb,0,none⟩),.int .i64 1] W (RdrDone (.int .i64 v3) rb R3 W) from by
  have:=RNum_any rb R2 1 W h (Nat.le_trans l2 (by decide))
  rwa[h3]at this))
 have c4:=box (fun (rb:Nat) (W:World) (h:RdrAt W rb R3)=>(show Calls Tryz.prog 120 #[.pointer (some ⟨rb,0,none⟩),.int .i64 6] W (RdrDone (.int .i64 v4) rb R4 W) from by
  have:=RNum_any rb R3 6 W h (Nat.le_trans l3 (by decide))
  rwa[h4]at this))
 have c5:=box (fun (rb:Nat) (W:World) (h:RdrAt W rb R4)=>(show Calls Tryz.prog 120 #[.pointer (some ⟨rb,0,none⟩),.int .i64 6] W (RdrDone (.int .i64 v5) rb R5 W) from by
  have:=RNum_any rb R4 6 W h (Nat.le_trans l4 (by decide))
  rwa[h5]at this))
 have c6:=box (fun (rb:Nat) (W:World) (h:RdrAt W rb R5)=>(show Calls Tryz.prog 120 #[.pointer (some ⟨rb,0,none⟩),.int .i64 6] W (RdrDone (.int .i64 v6) rb R6 W) from by
  have:=RNum_any rb R5 6 W h (Nat.le_trans l5 (by decide))
  rwa[h6]at this))
 have c7:=box (fun (rb:Nat) (W:World) (h:RdrAt W rb R6)=>(show Calls Tryz.prog 166 #[.pointer (some ⟨rb,0,none⟩),.int .i64 16] W (RdrDone (.string v7) rb R7 W) from by
  have:=RText_any rb R6 16 W h (Nat.le_trans l6 (by decide))
  rwa[h7]at this))
 have c8:=box (fun (rb:Nat) (W:World) (h:RdrAt W rb R7)=>(show Calls Tryz.prog 166 #[.pointer (some ⟨rb,0,none⟩),.int .i64 16] W (RdrDone (.string v8) rb R8 W) from by
  have:=RText_any rb R7 16 W h (Nat.le_trans l7 (by decide))
  rwa[h8]at this))
 have c9:=box (fun (rb:Nat) (W:World) (h:RdrAt W rb R8)=>(show Calls Tryz.prog 166 #[.pointer (some ⟨rb,0,none⟩),.int .i64 200] W (RdrDone (.string v9) rb R9 W) from by
  have:=RText_any rb R8 200 W h (Nat.le_trans l8 (by decide))
  rwa[h9]at this))
 have cL:=box (fun (rb:Nat) (W:World) (h:RdrAt W rb R9)=>(show Calls Tryz.prog 167 #[.pointer (some ⟨rb,0,none⟩),.int .i64 3,.int .i64 16] W (ListRead L rb R10 W) from by
  have:=RList_any rb R9 3 16 W h (Nat.le_trans l9 (by decide))
  rwa[h10]at this))
 have l9':v9.size≤1000000:=Nat.le_trans (by have:=text_le1 R8 200;rw[h9]at this;exact this) l8
 have lL:=list_le R9 3 16
 rw[h10]at lL
 simp only at lL
 have LL:=box (show L.length≤1000000∧∀s∈L,s.size≤maxLen from ⟨by omega,fun s h=>Nat.le_trans (lL.2 s h) (Nat.le_trans l9 (by decide))⟩)
 have Hopen:=box hopen
 have cE:=box (fun (rb:Nat) (W:World) (h:RdrAt W rb R10)=>End_any rb R10 W h)
 have cR:=box (fun (kv:Value) (W:World) (h:StrsAt W kv L)=>Right_all ⟨v1,v2,v5,v3,v6,v4,v7,v8,v9,L⟩ kv W h LL.out.2 LL.out.1 (Nat.le_trans l9' (by decide)))
 have hok:OpenOk s↔R10.end_=0∧v1≠0∧RightP ⟨v1,v2,v5,v3,v6,v4,v7,v8,v9,L⟩:=by unfold OpenOk;rw[hopen]
 obtain⟨en,hen⟩:∃en,R10.end_=en:=⟨_,rfl⟩
 rw[hen]at hok cE
 have Hok:=box hok
 clear hen hok lL l9'
 clear LL hs l1 l2 l3 l4 l5 l6 l7 l8 l9 h1 h2 h3 h4 h5 h6 h7 h8 h9 h10 hopen
 go_enter Tryz.func124,Tryz.ntmps124
 go_wp2_with fail
 refine(New_any s _).mono ?_
 rintro e w1 ⟨rb,hrb,rfl,hr1,hc1⟩
 simp only[World.size_alloc]at hrb
 have X0:=box hr1
 have W1:=box (C0.out.trans hc1)
 have Z1:=box (heap_calm hc1 Z0.out)
 have Hrb:=box hrb
 clear hr1 hc1 hrb
 go_wp2_with fail
 refine(c1.out rb _ X0.out).mono ?_
 rintro e w2 ⟨rfl,hr,hk⟩
 have X1:=box hr
 have W2:=box (Below.trans W1.out (hk.below (B:=w.heap.size) W1.out.size (fun x e=>by have:=Hrb.out;omega)))
 have Z2:=box ((hk.block _ (heap_lt Z1.out) (fun e=>by have:=Hrb.out;omega)).trans Z1.out)
 clear hr hk
 go_wp2_with fail
 refine(c2.out rb _ X1.out).mono ?_
 rintro e w3 ⟨rfl,hr,hk⟩
 have X2:=box hr
 have W3:=box (Below.trans W2.out (hk.below (B:=w.heap.size) W2.out.size (fun x e=>by have:=Hrb.out;omega)))
 have Z3:=box ((hk.block _ (heap_lt Z2.out) (fun e=>by have:=Hrb.out;omega)).trans Z2.out)
 clear hr hk
 go_wp2_with fail
 refine(c3.out rb _ X2.out).mono ?_
 rintro e w4 ⟨rfl,hr,hk⟩
 have X3:=box hr
 have W4:=box (Below.trans W3.out (hk.below (B:=w.heap.size) W3.out.size (fun x e=>by have:=Hrb.out;omega)))
 have Z4:=box ((hk.block _ (heap_lt Z3.out) (fun e=>by have:=Hrb.out;omega)).trans Z3.out)
 clear hr hk
 have HB:=box (show rb<w4.heap.size from heap_lt X3.out)
 have HZ:=box (show w.heap.size<w4.heap.size from heap_lt Z4.out)
 have K4:=box (show Calm w4 (w4.alloc (.cells (msgA ⟨v1,v2,0,v3,0,0,⟨#[]⟩,⟨#[]⟩,⟨#[]⟩,[]⟩ (.slice none 0 0)) 63)) from (Calm.refl w4).alloc _)
 have M4a:=box (heap_new w4 (.cells (msgA ⟨v1,v2,0,v3,0,0,⟨#[]⟩,⟨#[]⟩,⟨#[]⟩,[]⟩ (.slice none 0 0)) 63))
 have X3a:=box (show RdrAt (w4.alloc (.cells (msgA ⟨v1,v2,0,v3,0,0,⟨#[]⟩,⟨#[]⟩,⟨#[]⟩,[]⟩ (.slice none 0 0)) 63)) rb R3 from heap_calm K4.out X3.out)
 have Z4a:=box (heap_calm K4.out Z4.out)
 have W4a:=box (Calm.trans W4.out K4.out)
 go_wp2_with fail
 refine(c4.out rb _ X3a.out).mono ?_
 rintro e w5 ⟨rfl,hr,hk⟩
 have X4:=box hr
 have W5:=box (Below.trans W4a.out (hk.below (B:=w.heap.size) (W4a.out).size (fun x e=>by have:=Hrb.out;omega)))
 have Z5:=box ((hk.block _ (heap_lt Z4a.out) (fun e=>by have:=Hrb.out;omega)).trans Z4a.out)
 have M5:=box ((hk.block _ (heap_lt M4a.out) (fun e=>by have:=HB.out;omega)).trans M4a.out)
 clear hr hk
 go_wp2_with fail
 refine(c5.out rb _ X4.out).mono ?_
 rintro e w6 ⟨rfl,hr,hk⟩
 have X5:=box hr
 have W6:=box (Below.trans W5.out (hk.below (B:=w.heap.size) (W5.out).size (fun x e=>by have:=Hrb.out;omega)))
 have Z6:=box ((hk.block _ (heap_lt Z5.out) (fun e=>by have:=Hrb.out;omega)).trans Z5.out)
 have M6:=box ((hk.block _ (heap_lt M5.out) (fun e=>by have:=HB.out;omega)).trans M5.out)
 clear hr hk
 go_wp2_with fail
 refine(c6.out rb _ X5.out).mono ?_
 rintro e w7 ⟨rfl,hr,hk⟩
 have X6:=box hr
 have W7:=box (Below.trans W6.out (hk.below (B:=w.heap.size) (W6.out).size (fun x e=>by have:=Hrb.out;omega)))
 have Z7:=box ((hk.block _ (heap_lt Z6.out) (fun e=>by have:=Hrb.out;omega)).trans Z6.out)
 have M7:=box ((hk.block _ (heap_lt M6.out) (fun e=>by have:=HB.out;omega)).trans M6.out)
 clear hr hk
 have X6s:=box (show RdrAt ((((w7.setCell ⟨w4.heap.size,5,none⟩ (.int .i64 v4)).setCell ⟨w4.heap.size,2,none⟩ (.int .i64 v5)).setCell ⟨w4.heap.size,4,none⟩ (.int .i64 v6))) rb R6 from (heap_set_other (b':=w4.heap.size) (by have:=HB.out;omega) 4 (.int .i64 v6)).trans ((heap_set_other (b':=w4.heap.size) (by have:=HB.out;omega) 2 (.int .i64 v5)).trans ((heap_set_other (b':=w4.heap.size) (by have:=HB.out;omega) 5 (.int .i64 v4)).trans (X6.out))))
 have Z7s:=box ((heap_set_other (b':=w4.heap.size) (by have:=HZ.out;omega) 4 (.int .i64 v6)).trans ((heap_set_other (b':=w4.heap.size) (by have:=HZ.out;omega) 2 (.int .i64 v5)).trans ((heap_set_other (b':=w4.heap.size) (by have:=HZ.out;omega) 5 (.int .i64 v4)).trans (Z7.out))))
 have hm:=heap_set (heap_set (heap_set (M7.out) 5 (.int .i64 v4)) 2 (.int .i64 v5)) 4 (.int .i64 v6)
 simp only[List.setIfInBounds_toArray,List.set_cons_zero,List.set_cons_succ]at hm
 have M7s:=box hm
 have W7s:=box (calm_setCell (calm_setCell (calm_setCell (W7.out) (p:=⟨w4.heap.size,5,none⟩) (by have:=HZ.out;simp only;omega) (.int .i64 v4)) (p:=⟨w4.heap.size,2,none⟩) (by have:=HZ.out;simp only;omega) (.int .i64 v5)) (p:=⟨w4.heap.size,4,none⟩) (by have:=HZ.out;simp only;omega) (.int .i64 v6))
 clear hm
 have d0:=cell_of M7.out 0
 have d1:=cell_of M7.out 1
 have d2:=cell_of M7.out 2
 have d3:=cell_of M7.out 3
 have d4:=cell_of M7.out 4
 have d5:=cell_of M7.out 5
 have d6:=cell_of M7.out 6
 have d7:=cell_of M7.out 7
 have d8:=cell_of M7.out 8
 have d9:=cell_of M7.out 9
 have f0:=free_of M7.out 0
 have f1:=free_of M7.out 1
 have f2:=free_of M7.out 2
 have f3:=free_of M7.out 3
 have f4:=free_of M7.out 4
 have f5:=free_of M7.out 5
 have f6:=free_of M7.out 6
 have f7:=free_of M7.out 7
 have f8:=free_of M7.out 8
 have f9:=free_of M7.out 9
 have hlt:=heap_lt M7.out
 go_wp2_with fail
 refine(c7.out rb _ X6s.out).mono ?_
 rintro e w8 ⟨rfl,hr,hk⟩
 have X7:=box hr
 have W8:=box (Below.trans W7s.out (hk.below (B:=w.heap.size) (W7s.out).size (fun x e=>by have:=Hrb.out;omega)))
 have Z8:=box ((hk.block _ (heap_lt Z7s.out) (fun e=>by have:=Hrb.out;omega)).trans Z7s.out)
 have M8:=box ((hk.block _ (heap_lt M7s.out) (fun e=>by have:=HB.out;omega)).trans M7s.out)
 clear hr hk
 clear d0 d1 d2 d3 d4 d5 d6 d7 d8 d9 f0 f1 f2 f3 f4 f5 f6 f7 f8 f9 hlt
 go_wp2_with fail
 refine(c8.out rb _ X7.out).mono ?_
 rintro e w9 ⟨rfl,hr,hk⟩
 have X8:=box hr
 have W9:=box (Below.trans W8.out (hk.below (B:=w.heap.size) (W8.out).size (fun x e=>by have:=Hrb.out;omega)))
 have Z9:=box ((hk.block _ (heap_lt Z8.out) (fun e=>by have:=Hrb.out;omega)).trans Z8.out)
 have M9:=box ((hk.block _ (heap_lt M8.out) (fun e=>by have:=HB.out;omega)).trans M8.out)
 clear hr hk
 go_wp2_with fail
 refine(c9.out rb _ X8.out).mono ?_
 rintro e w10 ⟨rfl,hr,hk⟩
 have X9:=box hr
 have W10:=box (Below.trans W9.out (hk.below (B:=w.heap.size) (W9.out).size (fun x e=>by have:=Hrb.out;omega)))
 have Z10:=box ((hk.block _ (heap_lt Z9.out) (fun e=>by have:=Hrb.out;omega)).trans Z9.out)
 have M10:=box ((hk.block _ (heap_lt M9.out) (fun e=>by have:=HB.out;omega)).trans M9.out)
 clear hr hk
 have X9s:=box (show RdrAt ((((w10.setCell ⟨w4.heap.size,6,none⟩ (.string v7)).setCell ⟨w4.heap.size,7,none⟩ (.string v8)).setCell ⟨w4.heap.size,8,none⟩ (.string v9))) rb R9 from (heap_set_other (b':=w4.heap.size) (by have:=HB.out;omega) 8 (.string v9)).trans ((heap_set_other (b':=w4.heap.size) (by have:=HB.out;omega) 7 (.string v8)).trans ((heap_set_other (b':=w4.heap.size) (by have:=HB.out;omega) 6 (.string v7)).trans (X9.out))))
 have Z10s:=box ((heap_set_other (b':=w4.heap.size) (by have:=HZ.out;omega) 8 (.string v9)).trans ((heap_set_other (b':=w4.heap.size) (by have:=HZ.out;omega) 7 (.string v8)).trans ((heap_set_other (b':=w4.heap.size) (by have:=HZ.out;omega) 6 (.string v7)).trans (Z10.out))))
 have hm:=heap_set (heap_set (heap_set (M10.out) 6 (.string v7)) 7 (.string v8)) 8 (.string v9)
 simp only[List.setIfInBounds_toArray,List.set_cons_zero,List.set_cons_succ]at hm
 have M10s:=box hm
 have W10s:=box (calm_setCell (calm_setCell (calm_setCell (W10.out) (p:=⟨w4.heap.size,6,none⟩) (by have:=HZ.out;simp only;omega) (.string v7)) (p:=⟨w4.heap.size,7,none⟩) (by have:=HZ.out;simp only;omega) (.string v8)) (p:=⟨w4.heap.size,8,none⟩) (by have:=HZ.out;simp only;omega) (.string v9))
 clear hm
 have d0:=cell_of M10.out 0
 have d1:=cell_of M10.out 1
 have d2:=cell_of M10.out 2
 have d3:=cell_of M10.out 3
 have d4:=cell_of M10.out 4
 have d5:=cell_of M10.out 5
 have d6:=cell_of M10.out 6
 have d7:=cell_of M10.out 7
 have d8:=cell_of M10.out 8
 have d9:=cell_of M10.out 9
 have f0:=free_of M10.out 0
 have f1:=free_of M10.out 1
 have f2:=free_of M10.out 2
 have f3:=free_of M10.out 3
 have f4:=free_of M10.out 4
 have f5:=free_of M10.out 5
 have f6:=free_of M10.out 6
 have f7:=free_of M10.out 7
 have f8:=free_of M10.out 8
 have f9:=free_of M10.out 9
 have hlt:=heap_lt M10.out
 go_wp2_with fail
 refine(cL.out rb _ X9s.out).mono ?_
 rintro e w11 ⟨kv,rfl,hr,hk,hst,hfr⟩
 obtain⟨ka,kcap,rfl,_⟩:=hst.uni
 have X10:=box hr
 have W11:=box (Below.trans W10s.out (hk.below (B:=w.heap.size) (W10s.out).size (fun x e=>by have:=Hrb.out;omega)))
 have Z11:=box ((hk.block _ (heap_lt Z10s.out) (fun e=>by have:=Hrb.out;omega)).trans Z10s.out)
 have M11:=box ((hk.block _ (heap_lt M10s.out) (fun e=>by have:=HB.out;omega)).trans M10s.out)
 have Hsz:=box (show ∀a n c,Value.slice ka L.length kcap=.slice (some a) n c→0<n→w4.heap.size<a.block from fun a n c e h=>by
  have h1:=hfr a n c e h
  have h2:=heap_lt M10s.out
  omega)
 have Hst:=box hst
 clear hr hk hst hfr
 clear d0 d1 d2 d3 d4 d5 d6 d7 d8 d9 f0 f1 f2 f3 f4 f5 f6 f7 f8 f9 hlt
 have X10s:=box (show RdrAt ((w11.setCell ⟨w4.heap.size,9,none⟩ (.slice ka L.length kcap))) rb R10 from (heap_set_other (b':=w4.heap.size) (by have:=HB.out;omega) 9 (.slice ka L.length kcap)).trans (X10.out))
 have Z11s:=box ((heap_set_other (b':=w4.heap.size) (by have:=HZ.out;omega) 9 (.slice ka L.length kcap)).trans (Z11.out))
 have hm:=heap_set (M11.out) 9 (.slice ka L.length kcap)
 simp only[List.setIfInBounds_toArray,List.set_cons_zero,List.set_cons_succ]at hm
 have M11s:=box hm
 have W11s:=box (calm_setCell (W11.out) (p:=⟨w4.heap.size,9,none⟩) (by have:=HZ.out;simp only;omega) (.slice ka L.length kcap))
 clear hm
 have d0:=cell_of M11.out 0
 have d1:=cell_of M11.out 1
 have d2:=cell_of M11.out 2
 have d3:=cell_of M11.out 3
 have d4:=cell_of M11.out 4
 have d5:=cell_of M11.out 5
 have d6:=cell_of M11.out 6
 have d7:=cell_of M11.out 7
 have d8:=cell_of M11.out 8
 have d9:=cell_of M11.out 9
 have f0:=free_of M11.out 0
 have f1:=free_of M11.out 1
 have f2:=free_of M11.out 2
 have f3:=free_of M11.out 3
 have f4:=free_of M11.out 4
 have f5:=free_of M11.out 5
 have f6:=free_of M11.out 6
 have f7:=free_of M11.out 7
 have f8:=free_of M11.out 8
 have f9:=free_of M11.out 9
 have hlt:=heap_lt M11.out
 have Hsts:=box (strs_keep (F:=fun b=>b=w4.heap.size) Hst.out ((Keeps.refl (fun b=>b=w4.heap.size) w11).setCell (p:=⟨w4.heap.size,9,none⟩) (.inl rfl) (.slice ka L.length kcap)) (fun a n c e hn hf=>by have:=Hsz.out a n c e hn;omega))
 go_wp2_with fail
 clear d0 d1 d2 d3 d4 d5 d6 d7 d8 d9 f0 f1 f2 f3 f4 f5 f6 f7 f8 f9 hlt
 by_cases hE:en=0
 ·by_cases hV:v1=0
  ·have e1:(en==0)=true:=beq_iff_eq.2 hE
   have e2:(v1 != 0)=false:=by rw[hV];rfl
   have HV:=box hV
   have HE:=box hE
   clear hV hE
   refine wp_region_held_drew (S:=(fun w'=>w'.cell? ⟨w4.heap.size,0,none⟩=some (.int .i64 v1)∧w'.cell? ⟨w4.heap.size,1,none⟩=some (.int .i64 v2)∧w'.cell? ⟨w4.heap.size,2,none⟩=some (.int .i64 v5)∧w'.cell? ⟨w4.heap.size,3,none⟩=some (.int .i64 v3)∧w'.cell? ⟨w4.heap.size,4,none⟩=some (.int .i64 v6)∧w'.cell? ⟨w4.heap.size,5,none⟩=some (.int .i64 v4)∧w'.cell? ⟨w4.heap.size,6,none⟩=some (.string v7)∧w'.cell? ⟨w4.heap.size,7,none⟩=some (.string v8)∧w'.cell? ⟨w4.heap.size,8,none⟩=some (.string v9)∧w'.cell? ⟨w4.heap.size,9,none⟩=some (.slice ka L.length kcap))) (by kernel_rfl) ⟨cell_of M11s.out 0,cell_of M11s.out 1,cell_of M11s.out 2,cell_of M11s.out 3,cell_of M11s.out 4,cell_of M11s.out 5,cell_of M11s.out 6,cell_of M11s.out 7,cell_of M11s.out 8,cell_of M11s.out 9⟩ (fun hHeld=>?_)
   (refine tk 0 ?_;refine tk 1 ?_)
   refine wpAnyH_ready (rs:=[2]) (by kernel_rfl) (by simp) ?_
   refine AllReadyH.cons rfl (fun K hK=>?_) AllReadyH.nil
   rw[if_pos (by rfl)]
   go_simp
   refine(cE.out rb _ (show RdrAt ((w11.setCell ⟨w4.heap.size,9,none⟩ (.slice ka L.length kcap)).drew) rb R10 from X10s.out)).mono ?_
   rintro e w' ⟨rfl,rfl⟩
   go_wp2_with fail
   refine hK.out _ _ ⟨cell_of M11s.out 0,cell_of M11s.out 1,cell_of M11s.out 2,cell_of M11s.out 3,cell_of M11s.out 4,cell_of M11s.out 5,cell_of M11s.out 6,cell_of M11s.out 7,cell_of M11s.out 8,cell_of M11s.out 9⟩ (fun hHeld2=>?_)
   clear hK K
   try simp only[List.getElem_toArray,List.getElem_cons_succ,List.getElem_cons_zero,Act.put,List.setIfInBounds_toArray,List.set_cons_zero,List.set_cons_succ]
   (refine tk 3 ?_;refine tk 4 ?_)
   (refine tk 5 ?_;refine tk 6 ?_;refine tk 7 ?_;refine tk 8 ?_;refine tk 9 ?_)
   (refine sk 10 ?_;refine sk 11 ?_)
   (refine tk 12 ?_)
   refine wpAnyH_ready (rs:=[13]) (by kernel_rfl) (by simp) ?_
   refine AllReadyH.cons rfl (fun K hK=>?_) AllReadyH.nil
   rw[if_pos (by rfl)]
   have Hfin:=box (put_msg (w:=w11.setCell ⟨w4.heap.size,9,none⟩ (.slice ka L.length kcap)) (b:=w.heap.size) (Z11s.out) rfl (.int .i64 v1) (.int .i64 v2) (.int .i64 v5) (.int .i64 v3) (.int .i64 v6) (.int .i64 v4) (.string v7) (.string v8) (.string v9) (.slice ka L.length kcap))
   have Kfin:=box (keeps_put_msg (w:=w11.setCell ⟨w4.heap.size,9,none⟩ (.slice ka L.length kcap)) (Keeps.refl (fun b=>b=w.heap.size) (w11.setCell ⟨w4.heap.size,9,none⟩ (.slice ka L.length kcap))) (b:=w.heap.size) rfl (.int .i64 v1) (.int .i64 v2) (.int .i64 v5) (.int .i64 v3) (.int .i64 v6) (.int .i64 v4) (.string v7) (.string v8) (.string v9) (.slice ka L.length kcap))
   have Cfin:=box (calm_put_msg (a:=w) (w:=w11.setCell ⟨w4.heap.size,9,none⟩ (.slice ka L.length kcap)) (W11s.out) (b:=w.heap.size) (Nat.le_refl _) (.int .i64 v1) (.int .i64 v2) (.int .i64 v5) (.int .i64 v3) (.int .i64 v6) (.int .i64 v4) (.string v7) (.string v8) (.string v9) (.slice ka L.length kcap))
   have z0:=cell_of (Z11.out) 0
   have z1:=cell_of (Z11.out) 1
   have z2:=cell_of (Z11.out) 2
   have z3:=cell_of (Z11.out) 3
   have z4:=cell_of (Z11.out) 4
   have z5:=cell_of (Z11.out) 5
   have z6:=cell_of (Z11.out) 6
   have z7:=cell_of (Z11.out) 7
   have z8:=cell_of (Z11.out) 8
   have z9:=cell_of (Z11.out) 9
   have f0:=free_of (Z11.out) 0
   have f1:=free_of (Z11.out) 1
   have f2:=free_of (Z11.out) 2
   have f3:=free_of (Z11.out) 3
   have f4:=free_of (Z11.out) 4
   have f5:=free_of (Z11.out) 5
   have f6:=free_of (Z11.out) 6
   have f7:=free_of (Z11.out) 7
   have f8:=free_of (Z11.out) 8
   have f9:=free_of (Z11.out) 9
   have hlz:=heap_lt (Z11.out)
   have n1:¬(w.heap.size=w4.heap.size):=by have:=HZ.out;omega
   have n2:¬(w4.heap.size=w.heap.size):=by have:=HZ.out;omega
   go_simp
   refine hK.out _ _ (by have hm:=(Kfin.out.block _ (heap_lt (M11s.out)) (fun e=>by have:=HZ.out;omega)).trans (M11s.out);exact⟨cell_of (heap_drew hm) 0,cell_of (heap_drew hm) 1,cell_of (heap_drew hm) 2,cell_of (heap_drew hm) 3,cell_of (heap_drew hm) 4,cell_of (heap_drew hm) 5,cell_of (heap_drew hm) 6,cell_of (heap_drew hm) 7,cell_of (heap_drew hm) 8,cell_of (heap_drew hm) 9⟩) (fun hHeld3=>?_)
   clear hK K z0 z1 z2 z3 z4 z5 z6 z7 z8 z9 f0 f1 f2 f3 f4 f5 f6 f7 f8 f9 hlz n1 n2
   try simp only[List.getElem_toArray,List.getElem_cons_succ,List.getElem_cons_zero,Act.put,List.setIfInBounds_toArray,List.set_cons_zero,List.set_cons_succ]
   (refine tk 14 ?_)
   refine wpAnyH_done (by kernel_rfl) ?_ _
   have Hkv:=box (strs_keep (Hsts.out) Kfin.out (fun a n c e hn hf=>by have:=Hsz.out a n c e hn;have:=HZ.out;omega))
   clear hHeld hHeld2 hHeld3
   go_wp2_with fail
   (try simp only[Exit.inBlock,Exit.then])
   refine bodyPost_ret (ret_msg2 rfl _ _ w.heap.size _ rfl (heap_drew Hfin.out) rfl) rfl ?_
   unfold OpenDone
   rw[Hopen.out]
   exact⟨.slice ka L.length kcap,by rw[decide_eq_false (fun h=>(Hok.out.1 h).2.1 HV.out)];rfl,strs_drew Hkv.out,Cfin.out.drew,fun a n c e hn=>by have:=Hsz.out a n c e hn;have:=HZ.out;omega⟩
  ·have e1:(en==0)=true:=beq_iff_eq.2 hE
   have e2:(v1 != 0)=true:=by rw[bne,beq_eq_false_iff_ne.2 hV];rfl
   have HV:=box hV
   have HE:=box hE
   clear hV hE
   refine wp_region_held_drew (S:=(fun w'=>w'.cell? ⟨w4.heap.size,0,none⟩=some (.int .i64 v1)∧w'.cell? ⟨w4.heap.size,1,none⟩=some (.int .i64 v2)∧w'.cell? ⟨w4.heap.size,2,none⟩=some (.int .i64 v5)∧w'.cell? ⟨w4.heap.size,3,none⟩=some (.int .i64 v3)∧w'.cell? ⟨w4.heap.size,4,none⟩=some (.int .i64 v6)∧w'.cell? ⟨w4.heap.size,5,none⟩=some (.int .i64 v4)∧w'.cell? ⟨w4.heap.size,6,none⟩=some (.string v7)∧w'.cell? ⟨w4.heap.size,7,none⟩=some (.string v8)∧w'.cell? ⟨w4.heap.size,8,none⟩=some (.string v9)∧w'.cell? ⟨w4.heap.size,9,none⟩=some (.slice ka L.length kcap))) (by kernel_rfl) ⟨cell_of M11s.out 0,cell_of M11s.out 1,cell_of M11s.out 2,cell_of M11s.out 3,cell_of M11s.out 4,cell_of M11s.out 5,cell_of M11s.out 6,cell_of M11s.out 7,cell_of M11s.out 8,cell_of M11s.out 9⟩ (fun hHeld=>?_)
   (refine tk 0 ?_;refine tk 1 ?_)
   refine wpAnyH_ready (rs:=[2]) (by kernel_rfl) (by simp) ?_
   refine AllReadyH.cons rfl (fun K hK=>?_) AllReadyH.nil
   rw[if_pos (by rfl)]
   go_simp
   refine(cE.out rb _ (show RdrAt ((w11.setCell ⟨w4.heap.size,9,none⟩ (.slice ka L.length kcap)).drew) rb R10 from X10s.out)).mono ?_
   rintro e w' ⟨rfl,rfl⟩
   go_wp2_with fail
   refine hK.out _ _ ⟨cell_of M11s.out 0,cell_of M11s.out 1,cell_of M11s.out 2,cell_of M11s.out 3,cell_of M11s.out 4,cell_of M11s.out 5,cell_of M11s.out 6,cell_of M11s.out 7,cell_of M11s.out 8,cell_of M11s.out 9⟩ (fun hHeld2=>?_)
   clear hK K
   try simp only[List.getElem_toArray,List.getElem_cons_succ,List.getElem_cons_zero,Act.put,List.setIfInBounds_toArray,List.set_cons_zero,List.set_cons_succ]
   (refine tk 3 ?_;refine tk 4 ?_)
   (refine tk 5 ?_;refine tk 6 ?_;refine tk 7 ?_;refine tk 8 ?_;refine tk 9 ?_;refine tk 10 ?_)
   refine wpAnyH_ready (rs:=[11]) (by kernel_rfl) (by simp) ?_
   refine AllReadyH.cons rfl (fun K hK=>?_) AllReadyH.nil
   rw[if_pos (by rfl)]
   go_simp
   refine(cR.out _ _ (show StrsAt ((w11.setCell ⟨w4.heap.size,9,none⟩ (.slice ka L.length kcap)).drew) _ _ from Hsts.out)).mono ?_
   rintro e w12 ⟨rfl,hb⟩
   have M12:=box (heap_calm hb (show ((w11.setCell ⟨w4.heap.size,9,none⟩ (.slice ka L.length kcap)).drew).heap[w4.heap.size]? = _ from M11s.out))
   have Z12:=box (heap_calm hb (show ((w11.setCell ⟨w4.heap.size,9,none⟩ (.slice ka L.length kcap)).drew).heap[w.heap.size]? = _ from Z11s.out))
   have C12:=box (Calm.trans (show Calm w ((w11.setCell ⟨w4.heap.size,9,none⟩ (.slice ka L.length kcap)).drew) from W11s.out.drew) hb)
   have S12:=box (StrsAt.calm (show StrsAt ((w11.setCell ⟨w4.heap.size,9,none⟩ (.slice ka L.length kcap)).drew) (.slice ka L.length kcap) L from Hsts.out) hb)
   clear hb
   go_wp2_with fail
   refine hK.out _ _ ⟨cell_of M12.out 0,cell_of M12.out 1,cell_of M12.out 2,cell_of M12.out 3,cell_of M12.out 4,cell_of M12.out 5,cell_of M12.out 6,cell_of M12.out 7,cell_of M12.out 8,cell_of M12.out 9⟩ (fun hHeld4=>?_)
   clear hK K
   try simp only[List.getElem_toArray,List.getElem_cons_succ,List.getElem_cons_zero,Act.put,List.setIfInBounds_toArray,List.set_cons_zero,List.set_cons_succ]
   (refine tk 12 ?_)
   refine wpAnyH_ready (rs:=[13]) (by kernel_rfl) (by simp) ?_
   refine AllReadyH.cons rfl (fun K hK=>?_) AllReadyH.nil
   rw[if_pos (by rfl)]
   have Hfin:=box (put_msg (w:=w12) (b:=w.heap.size) (Z12.out) rfl (.int .i64 v1) (.int .i64 v2) (.int .i64 v5) (.int .i64 v3) (.int .i64 v6) (.int .i64 v4) (.string v7) (.string v8) (.string v9) (.slice ka L.length kcap))
   have Kfin:=box (keeps_put_msg (w:=w12) (Keeps.refl (fun b=>b=w.heap.size) (w12)) (b:=w.heap.size) rfl (.int .i64 v1) (.int .i64 v2) (.int .i64 v5) (.int .i64 v3) (.int .i64 v6) (.int .i64 v4) (.string v7) (.string v8) (.string v9) (.slice ka L.length kcap))
   have Cfin:=box (calm_put_msg (a:=w) (w:=w12) (C12.out) (b:=w.heap.size) (Nat.le_refl _) (.int .i64 v1) (.int .i64 v2) (.int .i64 v5) (.int .i64 v3) (.int .i64 v6) (.int .i64 v4) (.string v7) (.string v8) (.string v9) (.slice ka L.length kcap))
   have z0:=cell_of (Z12.out) 0
   have z1:=cell_of (Z12.out) 1
   have z2:=cell_of (Z12.out) 2
   have z3:=cell_of (Z12.out) 3
   have z4:=cell_of (Z12.out) 4
   have z5:=cell_of (Z12.out) 5
   have z6:=cell_of (Z12.out) 6
   have z7:=cell_of (Z12.out) 7
   have z8:=cell_of (Z12.out) 8
   have z9:=cell_of (Z12.out) 9
   have f0:=free_of (Z12.out) 0
   have f1:=free_of (Z12.out) 1
   have f2:=free_of (Z12.out) 2
   have f3:=free_of (Z12.out) 3
   have f4:=free_of (Z12.out) 4
   have f5:=free_of (Z12.out) 5
   have f6:=free_of (Z12.out) 6
   have f7:=free_of (Z12.out) 7
   have f8:=free_of (Z12.out) 8
   have f9:=free_of (Z12.out) 9
   have hlz:=heap_lt (Z12.out)
   have n1:¬(w.heap.size=w4.heap.size):=by have:=HZ.out;omega
   have n2:¬(w4.heap.size=w.heap.size):=by have:=HZ.out;omega
   go_simp
   refine hK.out _ _ (by have hm:=(Kfin.out.block _ (heap_lt (M12.out)) (fun e=>by have:=HZ.out;omega)).trans (M12.out);exact⟨cell_of hm 0,cell_of hm 1,cell_of hm 2,cell_of hm 3,cell_of hm 4,cell_of hm 5,cell_of hm 6,cell_of hm 7,cell_of hm 8,cell_of hm 9⟩) (fun hHeld3=>?_)
   clear hK K z0 z1 z2 z3 z4 z5 z6 z7 z8 z9 f0 f1 f2 f3 f4 f5 f6 f7 f8 f9 hlz n1 n2
   try simp only[List.getElem_toArray,List.getElem_cons_succ,List.getElem_cons_zero,Act.put,List.setIfInBounds_toArray,List.set_cons_zero,List.set_cons_succ]
   (refine tk 14 ?_)
   refine wpAnyH_done (by kernel_rfl) ?_ _
   have Hkv:=box (strs_keep (S12.out) Kfin.out (fun a n c e hn hf=>by have:=Hsz.out a n c e hn;have:=HZ.out;omega))
   clear hHeld hHeld2 hHeld3
   go_wp2_with fail
   (try simp only[Exit.inBlock,Exit.then])
   refine bodyPost_ret (ret_msg2 rfl _ _ w.heap.size _ rfl Hfin.out rfl) rfl ?_
   unfold OpenDone
   rw[Hopen.out]
   exact⟨.slice ka L.length kcap,by rw[show decide (OpenOk s)=decide (RightP ⟨v1,v2,v5,v3,v6,v4,v7,v8,v9,L⟩) from decide_eq_decide.2 ⟨fun h=>(Hok.out.1 h).2.2,fun h=>Hok.out.2 ⟨HE.out,HV.out,h⟩⟩];rfl,Hkv.out,Cfin.out,fun a n c e hn=>by have:=Hsz.out a n c e hn;have:=HZ.out;omega⟩
 ·have e1:(en==0)=false:=beq_eq_false_iff_ne.2 hE
  have HE:=box hE
  clear hE
  refine wp_region_held_drew (S:=(fun w'=>w'.cell? ⟨w4.heap.size,0,none⟩=some (.int .i64 v1)∧w'.cell? ⟨w4.heap.size,1,none⟩=some (.int .i64 v2)∧w'.cell? ⟨w4.heap.size,2,none⟩=some (.int .i64 v5)∧w'.cell? ⟨w4.heap.size,3,none⟩=some (.int .i64 v3)∧w'.cell? ⟨w4.heap.size,4,none⟩=some (.int .i64 v6)∧w'.cell? ⟨w4.heap.size,5,none⟩=some (.int .i64 v4)∧w'.cell? ⟨w4.heap.size,6,none⟩=some (.string v7)∧w'.cell? ⟨w4.heap.size,7,none⟩=some (.string v8)∧w'.cell? ⟨w4.heap.size,8,none⟩=some (.string v9)∧w'.cell? ⟨w4.heap.size,9,none⟩=some (.slice ka L.length kcap))) (by kernel_rfl) ⟨cell_of M11s.out 0,cell_of M11s.out 1,cell_of M11s.out 2,cell_of M11s.out 3,cell_of M11s.out 4,cell_of M11s.out 5,cell_of M11s.out 6,cell_of M11s.out 7,cell_of M11s.out 8,cell_of M11s.out 9⟩ (fun hHeld=>?_)
  (refine tk 0 ?_;refine tk 1 ?_)
  refine wpAnyH_ready (rs:=[2]) (by kernel_rfl) (by simp) ?_
  refine AllReadyH.cons rfl (fun K hK=>?_) AllReadyH.nil
  rw[if_pos (by rfl)]
  go_simp
  refine(cE.out rb _ (show RdrAt ((w11.setCell ⟨w4.heap.size,9,none⟩ (.slice ka L.length kcap)).drew) rb R10 from X10s.out)).mono ?_
  rintro e w' ⟨rfl,rfl⟩
  go_wp2_with fail
  refine hK.out _ _ ⟨cell_of M11s.out 0,cell_of M11s.out 1,cell_of M11s.out 2,cell_of M11s.out 3,cell_of M11s.out 4,cell_of M11s.out 5,cell_of M11s.out 6,cell_of M11s.out 7,cell_of M11s.out 8,cell_of M11s.out 9⟩ (fun hHeld2=>?_)
  clear hK K
  try simp only[List.getElem_toArray,List.getElem_cons_succ,List.getElem_cons_zero,Act.put,List.setIfInBounds_toArray,List.set_cons_zero,List.set_cons_succ]
  (refine tk 3 ?_;refine tk 4 ?_)
  (refine sk 5 ?_;refine sk 6 ?_;refine sk 7 ?_)
  (refine tk 8 ?_;refine tk 9 ?_)
  (refine sk 10 ?_;refine sk 11 ?_)
  (refine tk 12 ?_)
  refine wpAnyH_ready (rs:=[13]) (by kernel_rfl) (by simp) ?_
  refine AllReadyH.cons rfl (fun K hK=>?_) AllReadyH.nil
  rw[if_pos (by rfl)]
  have Hfin:=box (put_msg (w:=w11.setCell ⟨w4.heap.size,9,none⟩ (.slice ka L.length kcap)) (b:=w.heap.size) (Z11s.out) rfl (.int .i64 v1) (.int .i64 v2) (.int .i64 v5) (.int .i64 v3) (.int .i64 v6) (.int .i64 v4) (.string v7) (.string v8) (.string v9) (.slice ka L.length kcap))
  have Kfin:=box (keeps_put_msg (w:=w11.setCell ⟨w4.heap.size,9,none⟩ (.slice ka L.length kcap)) (Keeps.refl (fun b=>b=w.heap.size) (w11.setCell ⟨w4.heap.size,9,none⟩ (.slice ka L.length kcap))) (b:=w.heap.size) rfl (.int .i64 v1) (.int .i64 v2) (.int .i64 v5) (.int .i64 v3) (.int .i64 v6) (.int .i64 v4) (.string v7) (.string v8) (.string v9) (.slice ka L.length kcap))
  have Cfin:=box (calm_put_msg (a:=w) (w:=w11.setCell ⟨w4.heap.size,9,none⟩ (.slice ka L.length kcap)) (W11s.out) (b:=w.heap.size) (Nat.le_refl _) (.int .i64 v1) (.int .i64 v2) (.int .i64 v5) (.int .i64 v3) (.int .i64 v6) (.int .i64 v4) (.string v7) (.string v8) (.string v9) (.slice ka L.length kcap))
  have z0:=cell_of (Z11.out) 0
  have z1:=cell_of (Z11.out) 1
  have z2:=cell_of (Z11.out) 2
  have z3:=cell_of (Z11.out) 3
  have z4:=cell_of (Z11.out) 4
  have z5:=cell_of (Z11.out) 5
  have z6:=cell_of (Z11.out) 6
  have z7:=cell_of (Z11.out) 7
  have z8:=cell_of (Z11.out) 8
  have z9:=cell_of (Z11.out) 9
  have f0:=free_of (Z11.out) 0
  have f1:=free_of (Z11.out) 1
  have f2:=free_of (Z11.out) 2
  have f3:=free_of (Z11.out) 3
  have f4:=free_of (Z11.out) 4
  have f5:=free_of (Z11.out) 5
  have f6:=free_of (Z11.out) 6
  have f7:=free_of (Z11.out) 7
  have f8:=free_of (Z11.out) 8
  have f9:=free_of (Z11.out) 9
  have hlz:=heap_lt (Z11.out)
  have n1:¬(w.heap.size=w4.heap.size):=by have:=HZ.out;omega
  have n2:¬(w4.heap.size=w.heap.size):=by have:=HZ.out;omega
  go_simp
  refine hK.out _ _ (by have hm:=(Kfin.out.block _ (heap_lt (M11s.out)) (fun e=>by have:=HZ.out;omega)).trans (M11s.out);exact⟨cell_of (heap_drew hm) 0,cell_of (heap_drew hm) 1,cell_of (heap_drew hm) 2,cell_of (heap_drew hm) 3,cell_of (heap_drew hm) 4,cell_of (heap_drew hm) 5,cell_of (heap_drew hm) 6,cell_of (heap_drew hm) 7,cell_of (heap_drew hm) 8,cell_of (heap_drew hm) 9⟩) (fun hHeld3=>?_)
  clear hK K z0 z1 z2 z3 z4 z5 z6 z7 z8 z9 f0 f1 f2 f3 f4 f5 f6 f7 f8 f9 hlz n1 n2
  try simp only[List.getElem_toArray,List.getElem_cons_succ,List.getElem_cons_zero,Act.put,List.setIfInBounds_toArray,List.set_cons_zero,List.set_cons_succ]
  (refine tk 14 ?_)
  refine wpAnyH_done (by kernel_rfl) ?_ _
  have Hkv:=box (strs_keep (Hsts.out) Kfin.out (fun a n c e hn hf=>by have:=Hsz.out a n c e hn;have:=HZ.out;omega))
  clear hHeld hHeld2 hHeld3
  go_wp2_with fail
  (try simp only[Exit.inBlock,Exit.then])
  refine bodyPost_ret (ret_msg2 rfl _ _ w.heap.size _ rfl (heap_drew Hfin.out) rfl) rfl ?_
  unfold OpenDone
  rw[Hopen.out]
  exact⟨.slice ka L.length kcap,by rw[decide_eq_false (fun h=>HE.out (Hok.out.1 h).1)];rfl,strs_drew Hkv.out,Cfin.out.drew,fun a n c e hn=>by have:=Hsz.out a n c e hn;have:=HZ.out;omega⟩
end Go.Proofs.YtiahjipoofeliaaGreatDoor.rc
