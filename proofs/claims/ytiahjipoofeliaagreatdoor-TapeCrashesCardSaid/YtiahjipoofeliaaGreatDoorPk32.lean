/- Lemmas for this claim. -/
import Derived.Laws.StructEq
import Derived.Laws.Cover3
import Derived.Test.YtiahjipoofeliaaGreatDoorPk31
set_option maxRecDepth 100000
namespace Go.Proofs.YtiahjipoofeliaaGreatDoor.cr
open Go.ChangeShapes Go.WideShapes Go.ChangeAt Go.RowKit
open oc rc
theorem wpAnyH_more {P:Program} {md:Region.Mode} {ops:Array Oper} {Q:Exit→Act→World→Prop} {S S':World→Prop} (h:∀w,S' w→S w) :
  ∀(fuel:Nat) (listed:Array Bool) (a:Act) (w:World),wpAnyH P md ops Q S' fuel listed a w→wpAnyH P md ops Q S fuel listed a w
 | 0,_,_,_,k=>k
 | fuel+1,_,_,_,k=>⟨k.1,fun i hi=>wpOp_mono (fun _ _ h'=>⟨h _ h'.1,wpAnyH_more h fuel _ _ _ h'.2⟩) (k.2 i hi)⟩
theorem eqFour (a0 a1 a2 a3 b0 b1 b2 b3:Int) (w:World) :
  (Op.equalIn 10000 212 (.agg #[.int .u8 a0,.int .u8 a1,.int .u8 a2,.int .u8 a3]) (.agg #[.int .u8 b0,.int .u8 b1,.int .u8 b2,.int .u8 b3])).run Tryz.prog w=.ok (a0==b0 && (a1==b1 && (a2==b2 && a3==b3))) w:=by
 have u3:=Tryz.underlying5
 have a3':=Tryz.isAgg5
 have z3:=Tryz.sizeOf5
 rw[show (10000:Nat)=9999+1 from rfl,Op.equalIn]
 simp only[Sem.run_bind,run_underlying Tryz.underlying212,Result.andThen_ok]
 simp only[Std.Legacy.Range.forIn_eq_forIn_range',Std.Legacy.Range.size,Nat.sub_zero,Nat.add_sub_cancel,Nat.div_one,List.range'_succ,List.range'_zero,List.forIn_cons,List.forIn_nil]
 go_simp
 by_cases h0:a0=b0<;>by_cases h1:a1=b1<;>by_cases h2:a2=b2<;>by_cases h3:a3=b3<;>simp [h0,h1,h2,h3]
theorem neqFour (a0 a1 a2 a3 b0 b1 b2 b3:Int) (w:World) :
  (binOp .neq 212 (.agg #[.int .u8 a0,.int .u8 a1,.int .u8 a2,.int .u8 a3]) (.agg #[.int .u8 b0,.int .u8 b1,.int .u8 b2,.int .u8 b3])).run Tryz.prog w=.ok (.bool (!(a0==b0 && (a1==b1 && (a2==b2 && a3==b3))))) w:=by
 rw[run_neq_struct,eqFour];rfl
def openV:Option ByteArray→Value
 | none=>.tuple #[.string ⟨#[]⟩,.bool false]
 | some t=>.tuple #[.string t,.bool true]
theorem four_list (s:ByteArray) (h:4≤s.size):s.data.toList.take 4=[s[0],s[1],s[2],s[3]]:=by
 rw[four_cut s h];rfl
theorem ofNat_eq (x:UInt8) (n:Nat):UInt8.ofNat n=x↔((x.toNat:Nat):Int)=(n:Int)%256:=by
 constructor
 ·rintro rfl;rw[u8_ofNat]
 ·intro h
  apply UInt8.toNat_inj.1
  have:=u8_ofNat n
  omega
set_option maxHeartbeats 8000000 in
theorem Open_any (b:Nat) (s:ByteArray) (w:World) (h:TabAt w b 1024) (hs:s.size≤1000000) :
  Calls Tryz.prog 123 #[.pointer (some ⟨b,0,none⟩),.string s] w fun e w'=>e=.returned (openV (openSeal s))∧Calm w w':=by
 by_cases h4:4≤s.size
 ·obtain⟨t,ht⟩:∃t,s.extract 4 s.size=t:=⟨_,rfl⟩
  have htl:t.data.toList=s.data.toList.drop 4:=by
   rw[←ht]
   simp only[ByteArray.data_extract,Array.toList_extract,List.extract_eq_take_drop]
   exact List.take_of_length_le (by rw[List.length_drop,size_toList];exact Nat.le_refl _)
  have htz:t.size≤1000000:=by rw[←ht];simp;omega
  have hlt:=crcN_lt t.data.toList
  obtain⟨n,hn⟩:∃n,crcN t.data.toList=n:=⟨_,rfl⟩
  rw[hn]at hlt
  have hsum:=box (fun (W:World) (k:Nat) (hW:Calm w W) (hk:W.heap[k]? = some (.cells #[.string (s.extract 4 s.size)] 9 (0,0)))=>(show Calls Tryz.prog 165 #[.pointer (some ⟨b,0,none⟩),.slice (some ⟨k,0,none⟩) 1 1] W fun e w'=>e=.returned (.int .i64 n)∧Calm W w' from by
   rw[ht]at hk
   have:=Sum_any b (.slice (some ⟨k,0,none⟩) 1 1) [t] W (heap_calm hW h) (StrsAt.one (by rw[cell_of hk];rfl)) (by simp) (fun u hu=>by rw[List.mem_singleton]at hu;subst hu;omega)
   rwa[crcL_one,hn]at this))
  have hword:=box (fun W=>word_any n W hlt)
  have hu:(s.extract 0 4).data.toList=s.data.toList.take 4:=by
   simp only[ByteArray.data_extract,Array.toList_extract,List.extract_eq_take_drop];simp
  have husz:(s.extract 0 4).size=4:=by simp;omega
  have hconv:=box (fun W:World=>(show ∃g cap W',(convert 9 130 (.string (s.extract 0 4))).run Tryz.prog W=.ok (.slice (some ⟨g,0,none⟩) 4 cap) W'∧BufIs W' g cap (s.data.toList.take 4)∧Calm W W' from by
   obtain⟨g,cap,W',h1,h2,h3,_⟩:=conv_bytes (P:=Tryz.prog) W 9 130 5 (s.extract 0 4) Tryz.underlying9 Tryz.underlying130 Tryz.underlying5
   rw[husz]at h1
   rw[hu]at h2
   exact⟨g,cap,W',h1,h2,h3⟩))
  have hq:∃q,(!(((s[0].toNat:Nat):Int)==(n:Int) / 16777216 && (((s[1].toNat:Nat):Int)==(n:Int) / 65536%256 && (((s[2].toNat:Nat):Int)==(n:Int) / 256%256 && ((s[3].toNat:Nat):Int)==(n:Int)%256))))=q:=⟨_,rfl⟩
  obtain⟨q,hq⟩:=hq
  have hneq:=fun W=>neqFour (s[0].toNat:Nat) (s[1].toNat:Nat) (s[2].toNat:Nat) (s[3].toNat:Nat) ((n:Int) / 16777216) ((n:Int) / 65536%256) ((n:Int) / 256%256) ((n:Int)%256) W
  rw[hq]at hneq
  have hiff:s.data.toList.take 4=low 4 n↔q=false:=by
   rw[←hq,four_list s h4,low4,Bool.not_eq_false',Bool.and_eq_true,Bool.and_eq_true,Bool.and_eq_true,beq_iff_eq,beq_iff_eq,beq_iff_eq,beq_iff_eq]
   simp only[List.cons.injEq,and_true]
   rw[eq_comm,ofNat_eq,eq_comm (a:=s[1]),ofNat_eq,eq_comm (a:=s[2]),ofNat_eq,eq_comm (a:=s[3]),ofNat_eq]
   omega
  have hr0:=box (fun hq0:q=false=>(show openSeal s=some t from by
   unfold openSeal
   rw[if_neg (fun hh=>by
    rcases hh with hh|hh
    ·omega
    ·rw[←htl,hn]at hh;exact hh (hiff.2 hq0)),ht]))
  have hr1:=box (fun hq1:q=true=>(show openSeal s=none from by
   unfold openSeal
   rw[if_pos (.inr (by
    rw[←htl,hn]
    intro hh
    rw[hiff.1 hh]at hq1;cases hq1))]))
  have hfour0:∀(W:World) (g cap:Nat),BufIs W g cap (s.data.toList.take 4)→W.cell? ⟨g,0,none⟩=some (.int .u8 (s[0].toNat:Nat))∧W.cell? ⟨g,1,none⟩=some (.int .u8 (s[1].toNat:Nat))∧W.cell? ⟨g,2,none⟩=some (.int .u8 (s[2].toNat:Nat))∧W.cell? ⟨g,3,none⟩=some (.int .u8 (s[3].toNat:Nat)):=fun W g cap hB=>by
   rw[four_list s h4]at hB
   exact⟨hB.cells 0 (by simp),hB.cells 1 (by simp),hB.cells 2 (by simp),hB.cells 3 (by simp)⟩
  obtain⟨y0,hy0⟩:∃y,s[0].toNat=y:=⟨_,rfl⟩
  obtain⟨y1,hy1⟩:∃y,s[1].toNat=y:=⟨_,rfl⟩
  obtain⟨y2,hy2⟩:∃y,s[2].toNat=y:=⟨_,rfl⟩
  obtain⟨y3,hy3⟩:∃y,s[3].toNat=y:=⟨_,rfl⟩
  rw[hy0,hy1,hy2,hy3]at hneq hfour0
  have hfour:=box hfour0
  obtain⟨l4,hl4⟩:∃l,s.data.toList.take 4=l:=⟨_,rfl⟩
  rw[hl4]at hconv hfour
  have b1:decide ((s.size:Int)<4)=false:=decide_eq_false (by omega)
  have b2:(4:Int)≤s.size:=by omega
  have harr:=fun (g cap:Nat) (W:World)=>run_arrayAt (P:=Tryz.prog) W 212 5 4 (some ⟨g,0,none⟩) 4 cap Tryz.underlying212 (by decide)
  clear hy0 hy1 hy2 hy3 hfour0 hl4 hiff hq hu husz htl hn h
  have Ht:=box ht
  clear ht
  go_enter Tryz.func123,Tryz.ntmps123
  go_wp2_with fail
  refine wp_region_held_drew (S:=fun _=>True) (by kernel_rfl) trivial (fun hHeld=>?_)
  (refine tk 0 ?_;refine tk 1 ?_;refine tk 2 ?_;refine tk 3 ?_;refine tk 4 ?_;refine tk 5 ?_;refine tk 6 ?_;refine tk 7 ?_;refine tk 8 ?_;refine tk 9 ?_)
  (refine tk 13 ?_;refine tk 14 ?_;refine tk 15 ?_)
  refine wpAnyH_ready (rs:=[10,16]) (by kernel_rfl) (by simp) ?_
  refine AllReadyH.cons rfl (fun K hK=>?_) (AllReadyH.cons rfl (fun K hK=>?_) AllReadyH.nil)
  ·obtain⟨g,cap,W1,hrun,hbuf,hcv⟩:=hconv.out (w.drew)
   have HB1:=box hbuf
   have C1:=box (Calm.trans (show Calm w (w.drew) from (Calm.refl w).drew) hcv)
   clear hbuf hcv
   rw[if_pos (by rfl)]
   go_simp
   refine hK.out _ _ (by trivial) (fun hHeld=>?_)
   clear hK K hHeld hrun
   have hHeld:=hfour.out _ _ _ HB1.out
   refine wpAnyH_more (S':=(fun w'=>w'.cell? ⟨g,0,none⟩=some (.int .u8 (y0:Nat))∧w'.cell? ⟨g,1,none⟩=some (.int .u8 (y1:Nat))∧w'.cell? ⟨g,2,none⟩=some (.int .u8 (y2:Nat))∧w'.cell? ⟨g,3,none⟩=some (.int .u8 (y3:Nat)))) (fun _ _=>trivial) _ _ _ _ ?_
   try simp only[List.getElem_toArray,List.getElem_cons_succ,List.getElem_cons_zero,Act.put,List.setIfInBounds_toArray,List.set_cons_zero,List.set_cons_succ]
   (refine tk 11 ?_;refine tk 12 ?_)
   refine wpAnyH_ready (rs:=[16]) (by kernel_rfl) (by simp) ?_
   refine AllReadyH.cons rfl (fun K hK=>?_) AllReadyH.nil
   have BK2:=box (heap_new (W1) (.cells #[.string (s.extract 4 s.size)] 9))
   have C2:=box (Calm.alloc (show Calm w (W1) from C1.out) (.cells #[.string (s.extract 4 s.size)] 9))
   have HB2:=box (BufIs.calm (w':=(W1).alloc (.cells #[.string (s.extract 4 s.size)] 9)) HB1.out ((Calm.refl _).alloc _))
   rw[if_pos (by rfl)]
   go_simp
   refine hK.out _ _ (hfour.out _ _ _ HB2.out) (fun hHeld=>?_)
   clear hK K
   try simp only[List.getElem_toArray,List.getElem_cons_succ,List.getElem_cons_zero,Act.put,List.setIfInBounds_toArray,List.set_cons_zero,List.set_cons_succ]
   refine wpAnyH_ready (rs:=[17]) (by kernel_rfl) (by simp) ?_
   refine AllReadyH.cons rfl (fun K hK=>?_) AllReadyH.nil
   rw[if_pos (by rfl)]
   go_simp
   refine(hsum.out _ _ (show Calm w ((W1).alloc (.cells #[.string (s.extract 4 s.size)] 9)) from C2.out) (show ((W1).alloc (.cells #[.string (s.extract 4 s.size)] 9)).heap[_]? = _ from BK2.out)).mono ?_
   rintro e W3 ⟨rfl,hb⟩
   have C3:=box (Calm.trans (show Calm w ((W1).alloc (.cells #[.string (s.extract 4 s.size)] 9)) from C2.out) hb)
   have HB3:=box (BufIs.calm HB2.out hb)
   have BK3:=box (heap_calm hb BK2.out)
   clear hb
   go_wp2_with fail
   refine hK.out _ _ (hfour.out _ _ _ HB3.out) (fun hHeld=>?_)
   clear hK K
   try simp only[List.getElem_toArray,List.getElem_cons_succ,List.getElem_cons_zero,Act.put,List.setIfInBounds_toArray,List.set_cons_zero,List.set_cons_succ]
   refine wpAnyH_ready (rs:=[18]) (by kernel_rfl) (by simp) ?_
   refine AllReadyH.cons rfl (fun K hK=>?_) AllReadyH.nil
   rw[if_pos (by rfl)]
   go_simp
   refine(hword.out _).mono ?_
   rintro e W4 ⟨rfl,hb⟩
   have C4:=box (Calm.trans (show Calm w (W3) from C3.out) hb)
   have HB4:=box (BufIs.calm HB3.out hb)
   have BK4:=box (heap_calm hb BK3.out)
   clear hb
   go_wp2_with fail
   refine hK.out _ _ (hfour.out _ _ _ HB4.out) (fun hHeld=>?_)
   clear hK K
   try simp only[List.getElem_toArray,List.getElem_cons_succ,List.getElem_cons_zero,Act.put,List.setIfInBounds_toArray,List.set_cons_zero,List.set_cons_succ]
   (refine tk 19 ?_;refine tk 20 ?_)
   refine wpAnyH_done (by kernel_rfl) ?_ _
   cases q
   ·have hfin:=box (hr0.out rfl)
    clear hr0 hr1 hneq hHeld harr
    go_wp2_with fail
    go_ret2
    exact⟨by rw[hfin.out,←Ht.out];rfl,C4.out⟩
   ·have hfin:=box (hr1.out rfl)
    clear hr0 hr1 hneq hHeld harr
    go_wp2_with fail
    go_ret2
    exact⟨by rw[hfin.out];rfl,C4.out⟩
  ·have BK1:=box (show ((w.alloc (.cells #[.string (s.extract 4 s.size)] 9)).drew).heap[w.heap.size]? = _ from heap_new w (.cells #[.string (s.extract 4 s.size)] 9))
   have C1:=box (show Calm w ((w.alloc (.cells #[.string (s.extract 4 s.size)] 9)).drew) from ((Calm.refl w).alloc _).drew)
   rw[if_pos (by rfl)]
   go_simp
   refine hK.out _ _ (by trivial) (fun hHeld=>?_)
   clear hK K
   try simp only[List.getElem_toArray,List.getElem_cons_succ,List.getElem_cons_zero,Act.put,List.setIfInBounds_toArray,List.set_cons_zero,List.set_cons_succ]
   refine wpAnyH_ready (rs:=[10,17]) (by kernel_rfl) (by simp) ?_
   refine AllReadyH.cons rfl (fun K hK=>?_) (AllReadyH.cons rfl (fun K hK=>?_) AllReadyH.nil)
   ·obtain⟨g,cap,W2,hrun,hbuf,hcv⟩:=hconv.out ((w.alloc (.cells #[.string (s.extract 4 s.size)] 9)).drew)
    have HB2:=box hbuf
    have C2:=box (Calm.trans (show Calm w ((w.alloc (.cells #[.string (s.extract 4 s.size)] 9)).drew) from C1.out) hcv)
    have BK2:=box (heap_calm hcv BK1.out)
    clear hbuf hcv
    rw[if_pos (by rfl)]
    go_simp
    refine hK.out _ _ (by trivial) (fun hHeld=>?_)
    clear hK K hHeld hrun
    have hHeld:=hfour.out _ _ _ HB2.out
    refine wpAnyH_more (S':=(fun w'=>w'.cell? ⟨g,0,none⟩=some (.int .u8 (y0:Nat))∧w'.cell? ⟨g,1,none⟩=some (.int .u8 (y1:Nat))∧w'.cell? ⟨g,2,none⟩=some (.int .u8 (y2:Nat))∧w'.cell? ⟨g,3,none⟩=some (.int .u8 (y3:Nat)))) (fun _ _=>trivial) _ _ _ _ ?_
    try simp only[List.getElem_toArray,List.getElem_cons_succ,List.getElem_cons_zero,Act.put,List.setIfInBounds_toArray,List.set_cons_zero,List.set_cons_succ]
    (refine tk 11 ?_;refine tk 12 ?_)
    refine wpAnyH_ready (rs:=[17]) (by kernel_rfl) (by simp) ?_
    refine AllReadyH.cons rfl (fun K hK=>?_) AllReadyH.nil
    rw[if_pos (by rfl)]
    go_simp
    refine(hsum.out _ _ (show Calm w (W2) from C2.out) (show (W2).heap[_]? = _ from BK2.out)).mono ?_
    rintro e W3 ⟨rfl,hb⟩
    have C3:=box (Calm.trans (show Calm w (W2) from C2.out) hb)
    have HB3:=box (BufIs.calm HB2.out hb)
    have BK3:=box (heap_calm hb BK2.out)
    clear hb
    go_wp2_with fail
    refine hK.out _ _ (hfour.out _ _ _ HB3.out) (fun hHeld=>?_)
    clear hK K
    try simp only[List.getElem_toArray,List.getElem_cons_succ,List.getElem_cons_zero,Act.put,List.setIfInBounds_toArray,List.set_cons_zero,List.set_cons_succ]
    refine wpAnyH_ready (rs:=[18]) (by kernel_rfl) (by simp) ?_
    refine AllReadyH.cons rfl (fun K hK=>?_) AllReadyH.nil
    rw[if_pos (by rfl)]
    go_simp
    refine(hword.out _).mono ?_
    rintro e W4 ⟨rfl,hb⟩
    have C4:=box (Calm.trans (show Calm w (W3) from C3.out) hb)
    have HB4:=box (BufIs.calm HB3.out hb)
    have BK4:=box (heap_calm hb BK3.out)
    clear hb
    go_wp2_with fail
    refine hK.out _ _ (hfour.out _ _ _ HB4.out) (fun hHeld=>?_)
    clear hK K
    try simp only[List.getElem_toArray,List.getElem_cons_succ,List.getElem_cons_zero,Act.put,List.setIfInBounds_toArray,List.set_cons_zero,List.set_cons_succ]
    (refine tk 19 ?_;refine tk 20 ?_)
    refine wpAnyH_done (by kernel_rfl) ?_ _
    cases q
    ·have hfin:=box (hr0.out rfl)
     clear hr0 hr1 hneq hHeld harr
     go_wp2_with fail
     go_ret2
     exact⟨by rw[hfin.out,←Ht.out];rfl,C4.out⟩
    ·have hfin:=box (hr1.out rfl)
     clear hr0 hr1 hneq hHeld harr
     go_wp2_with fail
     go_ret2
     exact⟨by rw[hfin.out];rfl,C4.out⟩
   ·rw[if_pos (by rfl)]
    go_simp
    refine(hsum.out _ _ (show Calm w ((w.alloc (.cells #[.string (s.extract 4 s.size)] 9)).drew) from C1.out) (show ((w.alloc (.cells #[.string (s.extract 4 s.size)] 9)).drew).heap[_]? = _ from BK1.out)).mono ?_
    rintro e W2 ⟨rfl,hb⟩
    have C2:=box (Calm.trans (show Calm w ((w.alloc (.cells #[.string (s.extract 4 s.size)] 9)).drew) from C1.out) hb)
    have BK2:=box (heap_calm hb BK1.out)
    clear hb
    go_wp2_with fail
    refine hK.out _ _ (by trivial) (fun hHeld=>?_)
    clear hK K
    try simp only[List.getElem_toArray,List.getElem_cons_succ,List.getElem_cons_zero,Act.put,List.setIfInBounds_toArray,List.set_cons_zero,List.set_cons_succ]
    refine wpAnyH_ready (rs:=[10,18]) (by kernel_rfl) (by simp) ?_
    refine AllReadyH.cons rfl (fun K hK=>?_) (AllReadyH.cons rfl (fun K hK=>?_) AllReadyH.nil)
    ·obtain⟨g,cap,W3,hrun,hbuf,hcv⟩:=hconv.out (W2)
     have HB3:=box hbuf
     have C3:=box (Calm.trans (show Calm w (W2) from C2.out) hcv)
     have BK3:=box (heap_calm hcv BK2.out)
     clear hbuf hcv
     rw[if_pos (by rfl)]
     go_simp
     refine hK.out _ _ (by trivial) (fun hHeld=>?_)
     clear hK K hHeld hrun
     have hHeld:=hfour.out _ _ _ HB3.out
     refine wpAnyH_more (S':=(fun w'=>w'.cell? ⟨g,0,none⟩=some (.int .u8 (y0:Nat))∧w'.cell? ⟨g,1,none⟩=some (.int .u8 (y1:Nat))∧w'.cell? ⟨g,2,none⟩=some (.int .u8 (y2:Nat))∧w'.cell? ⟨g,3,none⟩=some (.int .u8 (y3:Nat)))) (fun _ _=>trivial) _ _ _ _ ?_
     try simp only[List.getElem_toArray,List.getElem_cons_succ,List.getElem_cons_zero,Act.put,List.setIfInBounds_toArray,List.set_cons_zero,List.set_cons_succ]
     (refine tk 11 ?_;refine tk 12 ?_)
     refine wpAnyH_ready (rs:=[18]) (by kernel_rfl) (by simp) ?_
     refine AllReadyH.cons rfl (fun K hK=>?_) AllReadyH.nil
     rw[if_pos (by rfl)]
     go_simp
     refine(hword.out _).mono ?_
     rintro e W4 ⟨rfl,hb⟩
     have C4:=box (Calm.trans (show Calm w (W3) from C3.out) hb)
     have HB4:=box (BufIs.calm HB3.out hb)
     have BK4:=box (heap_calm hb BK3.out)
     clear hb
     go_wp2_with fail
     refine hK.out _ _ (hfour.out _ _ _ HB4.out) (fun hHeld=>?_)
     clear hK K
     try simp only[List.getElem_toArray,List.getElem_cons_succ,List.getElem_cons_zero,Act.put,List.setIfInBounds_toArray,List.set_cons_zero,List.set_cons_succ]
     (refine tk 19 ?_;refine tk 20 ?_)
     refine wpAnyH_done (by kernel_rfl) ?_ _
     cases q
     ·have hfin:=box (hr0.out rfl)
      clear hr0 hr1 hneq hHeld harr
      go_wp2_with fail
      go_ret2
      exact⟨by rw[hfin.out,←Ht.out];rfl,C4.out⟩
     ·have hfin:=box (hr1.out rfl)
      clear hr0 hr1 hneq hHeld harr
      go_wp2_with fail
      go_ret2
      exact⟨by rw[hfin.out];rfl,C4.out⟩
    ·rw[if_pos (by rfl)]
     go_simp
     refine(hword.out _).mono ?_
     rintro e W3 ⟨rfl,hb⟩
     have C3:=box (Calm.trans (show Calm w (W2) from C2.out) hb)
     have BK3:=box (heap_calm hb BK2.out)
     clear hb
     go_wp2_with fail
     refine hK.out _ _ (by trivial) (fun hHeld=>?_)
     clear hK K
     try simp only[List.getElem_toArray,List.getElem_cons_succ,List.getElem_cons_zero,Act.put,List.setIfInBounds_toArray,List.set_cons_zero,List.set_cons_succ]
     refine wpAnyH_ready (rs:=[10]) (by kernel_rfl) (by simp) ?_
     refine AllReadyH.cons rfl (fun K hK=>?_) AllReadyH.nil
     obtain⟨g,cap,W4,hrun,hbuf,hcv⟩:=hconv.out (W3)
     have HB4:=box hbuf
     have C4:=box (Calm.trans (show Calm w (W3) from C3.out) hcv)
     have BK4:=box (heap_calm hcv BK3.out)
     clear hbuf hcv
     rw[if_pos (by rfl)]
     go_simp
     refine hK.out _ _ (by trivial) (fun hHeld=>?_)
     clear hK K hHeld hrun
     have hHeld:=hfour.out _ _ _ HB4.out
     refine wpAnyH_more (S':=(fun w'=>w'.cell? ⟨g,0,none⟩=some (.int .u8 (y0:Nat))∧w'.cell? ⟨g,1,none⟩=some (.int .u8 (y1:Nat))∧w'.cell? ⟨g,2,none⟩=some (.int .u8 (y2:Nat))∧w'.cell? ⟨g,3,none⟩=some (.int .u8 (y3:Nat)))) (fun _ _=>trivial) _ _ _ _ ?_
     try simp only[List.getElem_toArray,List.getElem_cons_succ,List.getElem_cons_zero,Act.put,List.setIfInBounds_toArray,List.set_cons_zero,List.set_cons_succ]
     (refine tk 11 ?_;refine tk 12 ?_)
     (refine tk 19 ?_;refine tk 20 ?_)
     refine wpAnyH_done (by kernel_rfl) ?_ _
     cases q
     ·have hfin:=box (hr0.out rfl)
      clear hr0 hr1 hneq hHeld harr
      go_wp2_with fail
      go_ret2
      exact⟨by rw[hfin.out,←Ht.out];rfl,C4.out⟩
     ·have hfin:=box (hr1.out rfl)
      clear hr0 hr1 hneq hHeld harr
      go_wp2_with fail
      go_ret2
      exact⟨by rw[hfin.out];rfl,C4.out⟩
 ·have hr:openSeal s=none:=by unfold openSeal;rw[if_pos (.inl (by omega))]
  rw[hr]
  have b1:decide ((s.size:Int)<4)=true:=decide_eq_true (by omega)
  clear hr h
  go_enter Tryz.func123,Tryz.ntmps123
  go_wp2_with fail
  refine wp_region_held_drew (S:=fun _=>True) (by kernel_rfl) trivial (fun hHeld=>?_)
  (refine tk 0 ?_;refine tk 1 ?_;refine tk 2 ?_;refine tk 3 ?_;refine tk 4 ?_;refine tk 5 ?_;refine tk 6 ?_;refine tk 7 ?_)
  (refine sk 8 ?_;refine sk 9 ?_;refine sk 10 ?_;refine sk 11 ?_;refine sk 12 ?_;refine sk 13 ?_;refine sk 14 ?_;refine sk 15 ?_;refine sk 16 ?_;refine sk 17 ?_;refine sk 18 ?_;refine sk 19 ?_)
  (refine tk 20 ?_)
  refine wpAnyH_done (by kernel_rfl) ?_ _
  go_wp2_with fail
  go_ret2
  exact⟨rfl,(Calm.refl w).drew⟩
end Go.Proofs.YtiahjipoofeliaaGreatDoor.cr
