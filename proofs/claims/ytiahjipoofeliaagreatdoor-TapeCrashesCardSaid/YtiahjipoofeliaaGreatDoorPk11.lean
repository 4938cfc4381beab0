/- Lemmas for this claim. -/
import Derived.Outline
import Derived.Test.YtiahjipoofeliaaGreatDoorPk10
set_option maxRecDepth 100000
namespace Go.Proofs.YtiahjipoofeliaaGreatDoor.dk
open Go.ChangeShapes Go.WideShapes Go.ChangeAt Go.RowKit
section
variable {w w' w1:World} {p mb:Nat} {wv wv':Value} {D:DiskS} {F:Nat→Prop}
def CrashDone (p:Nat) (D:DiskS) (F:Nat→Prop) (w:World) (e:Ending) (w':World):Prop:=e=.returned (.tuple #[])∧∃F',DiskAt w' p D F'∧Step F w F' w'
set_option maxHeartbeats 8000000 in
theorem Crash_any (ka:Option Addr) (kcap:Nat) (keep:List Bool) (lack:Int) (w:World) (h:DiskAt w p D F) (hk:BoolsAt w ka keep) (hap:Apart (.slice ka keep.length kcap) F) (hkc:keep.length≤kcap) (hkl:keep.length≤1000000) (hwl:D.waits.length≤1000000)
  (him:∀x∈D.waits,x.off+x.s.size≤100000000) (hsz:∀f∈D.files,f.image.size≤100000000) :
  Calls Tryz.prog 28 #[ptrTo p,.agg #[.slice ka keep.length kcap,.int .i64 lack]] w (CrashDone p (D.crashed keep lack) F w):=by
 obtain⟨mb,wv,h,rfl⟩:=h
 have hcalm:Calm w (w.alloc (.cells #[.slice ka keep.length kcap,.int .i64 lack] 58)):=(Calm.refl w).alloc _
 have h1:=h.calm hcalm
 obtain⟨c0,c1,c2,c3,c4⟩:=h1.cells
 have hpl:=heap_lt h.obj
 obtain⟨wa,wcap,hwv,hwc⟩:∃a cap,wv=.slice a D.waits.length cap∧D.waits.length≤cap:=by
  rcases h.waits.2 with ⟨rfl,h0⟩|⟨g,cap,cur,rfl,_,_,hc,_⟩
  ·exact⟨none,0,by rw[h0],by rw[h0];exact Nat.le_refl _⟩
  ·exact⟨_,cap,rfl,hc⟩
 have Hm:Box (∃m,m=min keep.length D.waits.length):=box ⟨_,rfl⟩
 have H:=box h
 have Hk:=box hk
 have Hap:=box hap
 have Him:=box him
 have Hsz:=box hsz
 clear h h1 hk him hsz hap
 subst hwv
 have hmm:(D.waits.length:Int)<keep.length∨¬((D.waits.length:Int)<keep.length):=by omega
 rcases hmm with hmin|hmin
 ·have hm1:D.waits.length≤kcap:=by omega
  have hm2:=box (show D.waits.length=min keep.length D.waits.length by omega)
  go_enter Tryz.func28,Tryz.ntmps28
  go_wp2_with fail
  go_region
  go_wp2_with fail
  generalize hW0:(w.alloc (.cells #[.slice ka keep.length kcap,.int .i64 lack] 58)).drew=w0
  have hc0:Calm (w.alloc (.cells #[.slice ka keep.length kcap,.int .i64 lack] 58)) w0:=by rw[←hW0];exact(Calm.refl _).drew
  have hD0:=box ((H.out.calm hcalm).calm hc0)
  have hk0:=box ((Hk.out.calm hcalm).calm hc0)
  have hplan:w0.heap[w.heap.size]? = some (.cells #[.slice ka keep.length kcap,.int .i64 lack] 58 (0,0)):=heap_calm hc0 (heap_new w _)
  have Hplan:=box hplan
  have HC:=box (hcalm.trans hc0)
  have hfoot:=box (fun b (hb:foot p mb (.slice wa D.waits.length wcap) D b)=>H.out.foot_lt b hb)
  obtain⟨m,hm⟩:∃m,min keep.length D.waits.length=m:=⟨_,rfl⟩
  have hm2:=hm2.out
  rw[hm]at hm2
  rw[hm2]
  have hm2:=box hm2
  have hmB:=box hm
  have hmk:m≤keep.length:=by omega
  have hmw:m≤D.waits.length:=by omega
  have hkm:m≤kcap:=by omega
  have hwm:m≤wcap:=by omega
  clear c0 c1 c2 c3 c4 hcalm hc0 hplan hW0 hm1 hm
  go_loopw [31] (fun i wr=>∃k:Nat,k≤m∧i=.int .i64 k∧DiskIn wr p mb (.slice wa D.waits.length wcap) (D.imaged (keptTo keep lack.toNat D.waits k))∧Keeps (foot p mb (.slice wa D.waits.length wcap) D) w0 wr) (fun i _=>m-(intOf i).toNat)
  case atStart=>exact⟨0,Nat.zero_le _,rfl,by rw[show keptTo keep lack.toNat D.waits 0=[] from rfl,imaged_nil];exact hD0.out,.refl _ _⟩
  case round =>
   obtain⟨k,hk,rfl,hD,hK⟩:=hrel
   by_cases hlt:k<m
   ·have hkw:k<D.waits.length:=by omega
    have hkk:k<keep.length:=by omega
    obtain⟨kb,koff,hka,hcell⟩:=hk0.out k hkk
    subst hka
    obtain⟨g,cap,hg,hle,hgl,r0,r1,r2⟩:=hD.row (k:=k) hkw
    cases hg
    obtain⟨x,hx⟩:∃x,D.waits[k]=x:=⟨_,rfl⟩
    have hkb0:=World.block_lt_of_cell? w0 _ hcell
    have hkbr:kb<wr.heap.size:=Nat.lt_of_lt_of_le hkb0 hK.size
    have hc:wr.cell? ⟨kb,koff+k,none⟩=some (.bool keep[k]):=by
     simp only[World.cell?]at hcell ⊢
     rw[hK.block kb hkb0 (Hap.out _ _ _ rfl (by omega))];exact hcell
    have c0:wr.cell? ⟨g,k * 3,none⟩=some (ptrTo x.blk):=by rw[←hx];exact r0
    have c1:wr.cell? ⟨g,k * 3+1,none⟩=some (.int .i64 x.off):=by rw[←hx];exact r1
    have c2:wr.cell? ⟨g,k * 3+2,none⟩=some (.string x.s):=by rw[←hx];exact r2
    have hxm:=box (show x∈D.waits by rw[←hx];exact List.getElem_mem _)
    have hxs:(x.s.size:Int)≤100000000:=by have:=Him.out x hxm.out;omega
    have hsn:=box (keptTo_succ keep lack.toNat D.waits k)
    have hat:=box (show keptAt keep lack.toNat D.waits k=if keep[k] then some { x with s:=if ((keep.take D.waits.length).drop (k+1)).contains true then x.s else x.s.extract 0 (x.s.size-lack.toNat) } else none by
     unfold keptAt;rw[List.getElem?_eq_getElem hkw,List.getD_eq_getElem?_getD,List.getElem?_eq_getElem hkk,hx];rfl)
    obtain⟨y,hy⟩:∃y,keep[k]=y:=⟨_,rfl⟩
    rw[hy]at hc hat
    have HD:=box hD
    have HK:=box hK
    clear hcell hD hK hx hy r0 r1 r2 hkb0
    cases y
    ·go_wp2_with fail
     go_roundw
     case rel=>exact⟨k+1,by omega,by go_num,by rw[hsn.out,hat.out];simpa using HD.out.calm ((Calm.refl wr).alloc _),HK.out.alloc _⟩
     case measure=>simp [intOf];omega
    ·have htk:keep.take D.waits.length=keep.take m:=by rw[←hmB.out,List.take_eq_take_min,Nat.min_comm]
     have hlen:((keep.take m).drop (k+1)).length=m-(k+1):=by simp;omega
     rw[htk]at hat
     have hCon:Box (∀W,Calm wr W→∀a c,(m-(k+1)=0∨a=some ⟨kb,koff+(k+1),none⟩)→Calls Tryz.prog 66 #[.slice a (m-(k+1)) c,.bool true] W fun e w'=>e=.returned (.bool (((keep.take m).drop (k+1)).contains true))∧W=w'):=box (fun W hW a c ha=>by
      rw[←hlen]
      refine ContainsB_any a c _ W ?_ (by rw[hlen];omega)
      rcases ha with h0|rfl
      ·intro i hi;rw[hlen]at hi;omega
      ·refine BoolsAt.drop (BoolsAt.take ?_ m) (k+1)
       intro i hi
       obtain⟨b',off',e,hc'⟩:=hk0.out i hi
       cases e
       refine⟨kb,koff,rfl,?_⟩
       have hlt0:=World.block_lt_of_cell? w0 _ hc'
       have h2:wr.cell? ⟨kb,koff+i,none⟩=w0.cell? ⟨kb,koff+i,none⟩:=by simp only[World.cell?];rw[HK.out.block kb hlt0 (Hap.out _ _ _ rfl (by omega))]
       rw[hW.cell (p:=⟨kb,koff+i,none⟩) hkbr,h2];exact hc')
     obtain⟨ct,hct⟩:∃ct,((keep.take m).drop (k+1)).contains true=ct:=⟨_,rfl⟩
     rw[hct]at hCon hat
     clear hct htk hlen
     have hps:w.heap.size<w0.heap.size:=heap_lt Hplan.out
     have hpw:wr.heap[w.heap.size]? = some (.cells #[.slice (some ⟨kb,koff,none⟩) keep.length kcap,.int .i64 lack] 58 (0,0)):=(HK.out.block _ hps (fun hb=>by have:=hfoot.out _ hb;omega)).trans Hplan.out
     have p1:wr.cell? ⟨w.heap.size,1,none⟩=some (.int .i64 lack):=cell_of hpw 1
     have hpr:=heap_lt hpw
     clear hpw
     have hkc:((kcap=k+1)=True∧Box (m-(k+1)=0))∨(kcap=k+1)=False:=by
      by_cases h:kcap=k+1
      ·exact .inl ⟨eq_true h,box (by omega)⟩
      ·exact .inr (eq_false h)
     rcases hkc with ⟨hkc2,hm0⟩|hkc2
     ·cases ct
      ·by_cases hl0:lack<0
       ·go_wp2_with fail
        refine(hCon.out _ ((Calm.refl wr).alloc _) _ _ (by first|exact .inl hm0.out|exact .inr rfl)).mono ?_
        rintro e w' ⟨rfl,rfl⟩
        go_wp2_with fail
        obtain⟨s',hs'⟩:∃s',s'=x.s:=⟨_,rfl⟩
        rw[←hs']
        have hat2:=box (show keptAt keep lack.toNat D.waits k=some ⟨x.blk,x.off,s'⟩ by rw[hat.out,hs'];simp [show lack.toNat=0 by omega])
        have hsz':=box (show s'.size≤x.s.size by rw[hs'];first|exact Nat.le_refl _|simp [ByteArray.size_extract])
        have hb9:=heap_new wr (.cells #[ptrTo x.blk,.int .i64 x.off,.string s'] 133)
        have t0:(wr.alloc (.cells #[ptrTo x.blk,.int .i64 x.off,.string s'] 133)).cell? ⟨wr.heap.size,0,none⟩=some (ptrTo x.blk):=cell_of hb9 0
        have t1:(wr.alloc (.cells #[ptrTo x.blk,.int .i64 x.off,.string s'] 133)).cell? ⟨wr.heap.size,1,none⟩=some (.int .i64 x.off):=cell_of hb9 1
        have t2:(wr.alloc (.cells #[ptrTo x.blk,.int .i64 x.off,.string s'] 133)).cell? ⟨wr.heap.size,2,none⟩=some (.string s'):=cell_of hb9 2
        have hlt9:wr.heap.size<(wr.alloc (.cells #[ptrTo x.blk,.int .i64 x.off,.string s'] 133)).heap.size:=heap_lt hb9
        have hD9:=box (HD.out.calm ((Calm.refl wr).alloc (.cells #[ptrTo x.blk,.int .i64 x.off,.string s'] 133)))
        have hK9:=box (HK.out.alloc (.cells #[ptrTo x.blk,.int .i64 x.off,.string s'] 133))
        obtain⟨fx,hfx1,hfx2⟩:=H.out.live x hxm.out
        have hxB:x.blk<wr.heap.size:=by have:=heap_lt (HD.out.files _ (find_some (imaged_mem HD.out hfx1)).1);rw[←hfx2];exact this
        clear hfx1 hfx2
        obtain⟨B,hB⟩:∃B,wr.heap.size=B:=⟨_,rfl⟩
        rw[hB]at t0 t1 t2 hlt9 hxB
        rw[hB]
        clear hb9 hs' hat hCon c0 c1 c2 hc p1 hpr hkbr HD HK
        generalize (wr.alloc (.cells #[ptrTo x.blk,.int .i64 x.off,.string s'] 133))=w9 at *
        obtain⟨f,hf,hfx⟩:=H.out.live x hxm.out
        have Hf:=box hf
        have Hfx:=box hfx
        obtain⟨img,himg⟩:∃img,lays f.image x.blk (keptTo keep lack.toNat D.waits k)=img:=⟨_,rfl⟩
        obtain⟨i0,i1,i2,i3⟩:=hD9.out.file (imaged_mem hD9.out hf)
        simp only[hfx,himg]at i0 i1 i2 i3
        have hfl9:x.blk<w9.heap.size:=World.block_lt_of_cell? w9 _ i0
        have himgs:=box (show img.size≤100000000 by rw[←himg];exact lays_size 100000000 x.blk _ _ (Hsz.out f hf) (fun y hy=>by obtain⟨z,hz,_,h2,h3⟩:=keptTo_mem hy;have:=Him.out z hz;omega))
        have Himg:=box himg
        have hlaid:=box (fun W=>laid_any img s' x.off W (by have:=himgs.out;omega) (by have:=hsz'.out;have:=Him.out x hxm.out;omega) (by have:=Him.out x hxm.out;omega))
        clear hf hfx himg
        refine wp_region_held_drew (S:=fun w'=>w'.cell? ⟨B,0,none⟩=some (ptrTo x.blk)∧w'.cell? ⟨B,1,none⟩=some (.int .i64 x.off)∧w'.cell? ⟨B,2,none⟩=some (.string s')) (by kernel_rfl) (by exact⟨t0,t1,t2⟩) (fun hHeld=>?_)
        (refine tk 0 ?_;refine tk 1 ?_;refine tk 2 ?_;refine tk 3 ?_;refine tk 4 ?_;refine tk 5 ?_)
        (refine tk 7 ?_;refine tk 8 ?_;refine tk 9 ?_;refine tk 10 ?_)
        refine wpAnyH_ready (rs:=[6]) (by kernel_rfl) (by simp) ?_
        refine AllReadyH.cons rfl (fun K hK=>?_) AllReadyH.nil
        rw[if_pos (by rfl)]
        go_simp
        refine hK.out _ _ ?_ (fun hHeld2=>?_)
        ·exact⟨by assumption,by assumption,by assumption⟩
        clear hK K
        try simp only[List.getElem_toArray,List.getElem_cons_succ,List.getElem_cons_zero,Act.put,List.setIfInBounds_toArray,List.set_cons_zero,List.set_cons_succ]
        refine wpAnyH_ready (rs:=[11]) (by kernel_rfl) (by simp) ?_
        refine AllReadyH.cons rfl (fun K hK=>?_) AllReadyH.nil
        rw[if_pos (by rfl)]
        go_simp
        refine(hlaid.out _).mono ?_
        rintro e w10 ⟨rfl,hb10⟩
        go_wp2_with fail
        refine hK.out _ _ ?_ (fun hHeld3=>?_)
        ·exact⟨by rw[hb10.cell (p:=⟨B,0,none⟩) (by simpa using hlt9)];simpa using t0,by rw[hb10.cell (p:=⟨B,1,none⟩) (by simpa using hlt9)];simpa using t1,by rw[hb10.cell (p:=⟨B,2,none⟩) (by simpa using hlt9)];simpa using t2⟩
        clear hK K
        try simp only[List.getElem_toArray,List.getElem_cons_succ,List.getElem_cons_zero,Act.put,List.setIfInBounds_toArray,List.set_cons_zero,List.set_cons_succ]
        (refine tk 12 ?_;refine tk 13 ?_)
        refine wpAnyH_ready (rs:=[14]) (by kernel_rfl) (by simp) ?_
        refine AllReadyH.cons rfl (fun K hK=>?_) AllReadyH.nil
        rw[if_pos (by rfl)]
        have hD10:=hD9.out.calm (((Calm.refl w9).drew).trans hb10)
        have hfi:=imaged_mem hD10 Hf.out
        obtain⟨j0,j1,j2,j3⟩:=hD10.file hfi
        simp only[Hfx.out]at j0 j1 j2 j3
        have hfl10:x.blk<w10.heap.size:=World.block_lt_of_cell? w10 _ j0
        have hfl10b:B<w10.heap.size:=Nat.lt_of_lt_of_le (by simpa using hlt9) hb10.size
        have hD11:=box (show DiskIn (w10.setCell ⟨x.blk,0,none⟩ (.string (laid img x.off s'))) p mb _ (D.imaged (keptTo keep lack.toNat D.waits (k+1))) by
         rw[hsn.out,hat2.out]
         show DiskIn _ _ _ _ (D.imaged (_++[_]))
         rw[H.out.imaged_snoc Hf.out _ ⟨x.blk,x.off,s'⟩ Hfx.out.symm]
         have hm10:=(find_some hfi).1
         refine hD10.fileTo hfi ((Keeps.refl (· = _) w10).setCell (p:=⟨x.blk,0,none⟩) (.inl Hfx.out.symm) _) (fun _=>⟨rfl,rfl⟩) ?_
         have:=heap_set (hD10.files _ hm10) 0 (.string (laid img x.off s'))
         simp only[Hfx.out,Himg.out]at this ⊢
         exact this)
        have hK11:=box (((hK9.out.drew).calm hb10).setCell (p:=⟨x.blk,0,none⟩) (.inl (.inr (.inr (.inr (List.mem_map.2 ⟨f,Hf.out,Hfx.out⟩))))) (.string (laid img x.off s')))
        clear hD10 hfi
        go_simp
        refine hK.out _ _ ?_ (fun hHeld4=>?_)
        ·have hne:(⟨B,0,none⟩:Addr).block≠x.blk:=by show B≠x.blk;omega
         obtain⟨q0,q1,q2⟩:=hHeld3
         have e4:∀k,(w10.setCell ⟨x.blk,0,none⟩ (.string (laid img x.off s'))).cell? ⟨B,k,none⟩=w10.cell? ⟨B,k,none⟩:=fun k=>by
          simp only[World.cell?];rw[heap_set_other (by omega)]
         exact⟨(e4 0).trans q0,(e4 1).trans q1,(e4 2).trans q2⟩
        clear hK K
        refine wpAnyH_done (by kernel_rfl) ?_ _
        clear hHeld hHeld2 hHeld3 hHeld4 hb10 hlaid
        go_wp2_with fail
        go_roundw
        case rel=>exact⟨k+1,by omega,by go_num,hD11.out,hK11.out⟩
        case measure=>simp [intOf];omega
       ·obtain⟨j,hj⟩:∃j:Nat,lack=j:=⟨lack.toNat,by omega⟩
        subst hj
        by_cases hl1:(x.s.size:Int)<j
        ·go_wp2_with fail
         refine(hCon.out _ ((Calm.refl wr).alloc _) _ _ (by first|exact .inl hm0.out|exact .inr rfl)).mono ?_
         rintro e w' ⟨rfl,rfl⟩
         go_wp2_with fail
         obtain⟨s',hs'⟩:∃s',s'=ByteArray.empty:=⟨_,rfl⟩
         rw[←hs']
         have hat2:=box (show keptAt keep (j:Int).toNat D.waits k=some ⟨x.blk,x.off,s'⟩ by rw[hat.out,hs'];simp [show x.s.size-j=0 by omega])
         have hsz':=box (show s'.size≤x.s.size by rw[hs'];first|exact Nat.le_refl _|simp [ByteArray.size_extract])
         have hb9:=heap_new wr (.cells #[ptrTo x.blk,.int .i64 x.off,.string s'] 133)
         have t0:(wr.alloc (.cells #[ptrTo x.blk,.int .i64 x.off,.string s'] 133)).cell? ⟨wr.heap.size,0,none⟩=some (ptrTo x.blk):=cell_of hb9 0
         have t1:(wr.alloc (.cells #[ptrTo x.blk,.int .i64 x.off,.string s'] 133)).cell? ⟨wr.heap.size,1,none⟩=some (.int .i64 x.off):=cell_of hb9 1
         have t2:(wr.alloc (.cells #[ptrTo x.blk,.int .i64 x.off,.string s'] 133)).cell? ⟨wr.heap.size,2,none⟩=some (.string s'):=cell_of hb9 2
         have hlt9:wr.heap.size<(wr.alloc (.cells #[ptrTo x.blk,.int .i64 x.off,.string s'] 133)).heap.size:=heap_lt hb9
         have hD9:=box (HD.out.calm ((Calm.refl wr).alloc (.cells #[ptrTo x.blk,.int .i64 x.off,.string s'] 133)))
         have hK9:=box (HK.out.alloc (.cells #[ptrTo x.blk,.int .i64 x.off,.string s'] 133))
         obtain⟨fx,hfx1,hfx2⟩:=H.out.live x hxm.out
         have hxB:x.blk<wr.heap.size:=by have:=heap_lt (HD.out.files _ (find_some (imaged_mem HD.out hfx1)).1);rw[←hfx2];exact this
         clear hfx1 hfx2
         obtain⟨B,hB⟩:∃B,wr.heap.size=B:=⟨_,rfl⟩
         rw[hB]at t0 t1 t2 hlt9 hxB
         rw[hB]
         clear hb9 hs' hat hCon c0 c1 c2 hc p1 hpr hkbr HD HK
         generalize (wr.alloc (.cells #[ptrTo x.blk,.int .i64 x.off,.string s'] 133))=w9 at *
         obtain⟨f,hf,hfx⟩:=H.out.live x hxm.out
         have Hf:=box hf
         have Hfx:=box hfx
         obtain⟨img,himg⟩:∃img,lays f.image x.blk (keptTo keep (j:Int).toNat D.waits k)=img:=⟨_,rfl⟩
         obtain⟨i0,i1,i2,i3⟩:=hD9.out.file (imaged_mem hD9.out hf)
         simp only[hfx,himg]at i0 i1 i2 i3
         have hfl9:x.blk<w9.heap.size:=World.block_lt_of_cell? w9 _ i0
         have himgs:=box (show img.size≤100000000 by rw[←himg];exact lays_size 100000000 x.blk _ _ (Hsz.out f hf) (fun y hy=>by obtain⟨z,hz,_,h2,h3⟩:=keptTo_mem hy;have:=Him.out z hz;omega))
         have Himg:=box himg
         have hlaid:=box (fun W=>laid_any img s' x.off W (by have:=himgs.out;omega) (by have:=hsz'.out;have:=Him.out x hxm.out;omega) (by have:=Him.out x hxm.out;omega))
         clear hf hfx himg
         refine wp_region_held_drew (S:=fun w'=>w'.cell? ⟨B,0,none⟩=some (ptrTo x.blk)∧w'.cell? ⟨B,1,none⟩=some (.int .i64 x.off)∧w'.cell? ⟨B,2,none⟩=some (.string s')) (by kernel_rfl) (by exact⟨t0,t1,t2⟩) (fun hHeld=>?_)
         (refine tk 0 ?_;refine tk 1 ?_;refine tk 2 ?_;refine tk 3 ?_;refine tk 4 ?_;refine tk 5 ?_)
         (refine tk 7 ?_;refine tk 8 ?_;refine tk 9 ?_;refine tk 10 ?_)
         refine wpAnyH_ready (rs:=[6]) (by kernel_rfl) (by simp) ?_
         refine AllReadyH.cons rfl (fun K hK=>?_) AllReadyH.nil
         rw[if_pos (by rfl)]
         go_simp
         refine hK.out _ _ ?_ (fun hHeld2=>?_)
         ·exact⟨by assumption,by assumption,by assumption⟩
         clear hK K
         try simp only[List.getElem_toArray,List.getElem_cons_succ,List.getElem_cons_zero,Act.put,List.setIfInBounds_toArray,List.set_cons_zero,List.set_cons_succ]
         refine wpAnyH_ready (rs:=[11]) (by kernel_rfl) (by simp) ?_
         refine AllReadyH.cons rfl (fun K hK=>?_) AllReadyH.nil
         rw[if_pos (by rfl)]
         go_simp
         refine(hlaid.out _).mono ?_
         rintro e w10 ⟨rfl,hb10⟩
         go_wp2_with fail
         refine hK.out _ _ ?_ (fun hHeld3=>?_)
         ·exact⟨by rw[hb10.cell (p:=⟨B,0,none⟩) (by simpa using hlt9)];simpa using t0,by rw[hb10.cell (p:=⟨B,1,none⟩) (by simpa using hlt9)];simpa using t1,by rw[hb10.cell (p:=⟨B,2,none⟩) (by simpa using hlt9)];simpa using t2⟩
         clear hK K
         try simp only[List.getElem_toArray,List.getElem_cons_succ,List.getElem_cons_zero,Act.put,List.setIfInBounds_toArray,List.set_cons_zero,List.set_cons_succ]
         (refine tk 12 ?_;refine tk 13 ?_)
         refine wpAnyH_ready (rs:=[14]) (by kernel_rfl) (by simp) ?_
         refine AllReadyH.cons rfl (fun K hK=>?_) AllReadyH.nil
         rw[if_pos (by rfl)]
         have hD10:=hD9.out.calm (((Calm.refl w9).drew).trans hb10)
         have hfi:=imaged_mem hD10 Hf.out
         obtain⟨j0,j1,j2,j3⟩:=hD10.file hfi
         simp only[Hfx.out]at j0 j1 j2 j3
         have hfl10:x.blk<w10.heap.size:=World.block_lt_of_cell? w10 _ j0
         have hfl10b:B<w10.heap.size:=Nat.lt_of_lt_of_le (by simpa using hlt9) hb10.size
         have hD11:=box (show DiskIn (w10.setCell ⟨x.blk,0,none⟩ (.string (laid img x.off s'))) p mb _ (D.imaged (keptTo keep (j:Int).toNat D.waits (k+1))) by
          rw[hsn.out,hat2.out]
          show DiskIn _ _ _ _ (D.imaged (_++[_]))
          rw[H.out.imaged_snoc Hf.out _ ⟨x.blk,x.off,s'⟩ Hfx.out.symm]
          have hm10:=(find_some hfi).1
          refine hD10.fileTo hfi ((Keeps.refl (· = _) w10).setCell (p:=⟨x.blk,0,none⟩) (.inl Hfx.out.symm) _) (fun _=>⟨rfl,rfl⟩) ?_
          have:=heap_set (hD10.files _ hm10) 0 (.string (laid img x.off s'))
          simp only[Hfx.out,Himg.out]at this ⊢
          exact this)
         have hK11:=box (((hK9.out.drew).calm hb10).setCell (p:=⟨x.blk,0,none⟩) (.inl (.inr (.inr (.inr (List.mem_map.2 ⟨f,Hf.out,Hfx.out⟩))))) (.string (laid img x.off s')))
         clear hD10 hfi
         go_simp
         refine hK.out _ _ ?_ (fun hHeld4=>?_)
         ·have hne:(⟨B,0,none⟩:Addr).block≠x.blk:=by show B≠x.blk;omega
          obtain⟨q0,q1,q2⟩:=hHeld3
          have e4:∀k,(w10.setCell ⟨x.blk,0,none⟩ (.string (laid img x.off s'))).cell? ⟨B,k,none⟩=w10.cell? ⟨B,k,none⟩:=fun k=>by
           simp only[World.cell?];rw[heap_set_other (by omega)]
          exact⟨(e4 0).trans q0,(e4 1).trans q1,(e4 2).trans q2⟩
         clear hK K
         refine wpAnyH_done (by kernel_rfl) ?_ _
         clear hHeld hHeld2 hHeld3 hHeld4 hb10 hlaid
         go_wp2_with fail
         go_roundw
         case rel=>exact⟨k+1,by omega,by go_num,hD11.out,hK11.out⟩
         case measure=>simp [intOf];omega
        ·go_wp2_with fail
         refine(hCon.out _ ((Calm.refl wr).alloc _) _ _ (by first|exact .inl hm0.out|exact .inr rfl)).mono ?_
         rintro e w' ⟨rfl,rfl⟩
         go_wp2_with fail
         obtain⟨s',hs'⟩:∃s',s'=x.s.extract 0 (x.s.size-j):=⟨_,rfl⟩
         rw[←hs']
         have hat2:=box (show keptAt keep (j:Int).toNat D.waits k=some ⟨x.blk,x.off,s'⟩ by rw[hat.out,hs'];simp)
         have hsz':=box (show s'.size≤x.s.size by rw[hs'];first|exact Nat.le_refl _|simp [ByteArray.size_extract])
         have hb9:=heap_new wr (.cells #[ptrTo x.blk,.int .i64 x.off,.string s'] 133)
         have t0:(wr.alloc (.cells #[ptrTo x.blk,.int .i64 x.off,.string s'] 133)).cell? ⟨wr.heap.size,0,none⟩=some (ptrTo x.blk):=cell_of hb9 0
         have t1:(wr.alloc (.cells #[ptrTo x.blk,.int .i64 x.off,.string s'] 133)).cell? ⟨wr.heap.size,1,none⟩=some (.int .i64 x.off):=cell_of hb9 1
         have t2:(wr.alloc (.cells #[ptrTo x.blk,.int .i64 x.off,.string s'] 133)).cell? ⟨wr.heap.size,2,none⟩=some (.string s'):=cell_of hb9 2
         have hlt9:wr.heap.size<(wr.alloc (.cells #[ptrTo x.blk,.int .i64 x.off,.string s'] 133)).heap.size:=heap_lt hb9
         have hD9:=box (HD.out.calm ((Calm.refl wr).alloc (.cells #[ptrTo x.blk,.int .i64 x.off,.string s'] 133)))
         have hK9:=box (HK.out.alloc (.cells #[ptrTo x.blk,.int .i64 x.off,.string s'] 133))
         obtain⟨fx,hfx1,hfx2⟩:=H.out.live x hxm.out
         have hxB:x.blk<wr.heap.size:=by have:=heap_lt (HD.out.files _ (find_some (imaged_mem HD.out hfx1)).1);rw[←hfx2];exact this
         clear hfx1 hfx2
         obtain⟨B,hB⟩:∃B,wr.heap.size=B:=⟨_,rfl⟩
         rw[hB]at t0 t1 t2 hlt9 hxB
         rw[hB]
         clear hb9 hs' hat hCon c0 c1 c2 hc p1 hpr hkbr HD HK
         generalize (wr.alloc (.cells #[ptrTo x.blk,.int .i64 x.off,.string s'] 133))=w9 at *
         obtain⟨f,hf,hfx⟩:=H.out.live x hxm.out
         have Hf:=box hf
         have Hfx:=box hfx
         obtain⟨img,himg⟩:∃img,lays f.image x.blk (keptTo keep (j:Int).toNat D.waits k)=img:=⟨_,rfl⟩
         obtain⟨i0,i1,i2,i3⟩:=hD9.out.file (imaged_mem hD9.out hf)
         simp only[hfx,himg]at i0 i1 i2 i3
         have hfl9:x.blk<w9.heap.size:=World.block_lt_of_cell? w9 _ i0
         have himgs:=box (show img.size≤100000000 by rw[←himg];exact lays_size 100000000 x.blk _ _ (Hsz.out f hf) (fun y hy=>by obtain⟨z,hz,_,h2,h3⟩:=keptTo_mem hy;have:=Him.out z hz;omega))
         have Himg:=box himg
         have hlaid:=box (fun W=>laid_any img s' x.off W (by have:=himgs.out;omega) (by have:=hsz'.out;have:=Him.out x hxm.out;omega) (by have:=Him.out x hxm.out;omega))
         clear hf hfx himg
         refine wp_region_held_drew (S:=fun w'=>w'.cell? ⟨B,0,none⟩=some (ptrTo x.blk)∧w'.cell? ⟨B,1,none⟩=some (.int .i64 x.off)∧w'.cell? ⟨B,2,none⟩=some (.string s')) (by kernel_rfl) (by exact⟨t0,t1,t2⟩) (fun hHeld=>?_)
         (refine tk 0 ?_;refine tk 1 ?_;refine tk 2 ?_;refine tk 3 ?_;refine tk 4 ?_;refine tk 5 ?_)
         (refine tk 7 ?_;refine tk 8 ?_;refine tk 9 ?_;refine tk 10 ?_)
         refine wpAnyH_ready (rs:=[6]) (by kernel_rfl) (by simp) ?_
         refine AllReadyH.cons rfl (fun K hK=>?_) AllReadyH.nil
         rw[if_pos (by rfl)]
         go_simp
         refine hK.out _ _ ?_ (fun hHeld2=>?_)
         ·exact⟨by assumption,by assumption,by assumption⟩
         clear hK K
         try simp only[List.getElem_toArray,List.getElem_cons_succ,List.getElem_cons_zero,Act.put,List.setIfInBounds_toArray,List.set_cons_zero,List.set_cons_succ]
         refine wpAnyH_ready (rs:=[11]) (by kernel_rfl) (by simp) ?_
         refine AllReadyH.cons rfl (fun K hK=>?_) AllReadyH.nil
         rw[if_pos (by rfl)]
         go_simp
         refine(hlaid.out _).mono ?_
         rintro e w10 ⟨rfl,hb10⟩
         go_wp2_with fail
         refine hK.out _ _ ?_ (fun hHeld3=>?_)
         ·exact⟨by rw[hb10.cell (p:=⟨B,0,none⟩) (by simpa using hlt9)];simpa using t0,by rw[hb10.cell (p:=⟨B,1,none⟩) (by simpa using hlt9)];simpa using t1,by rw[hb10.cell (p:=⟨B,2,none⟩) (by simpa using hlt9)];simpa using t2⟩
         clear hK K
         try simp only[List.getElem_toArray,List.getElem_cons_succ,List.getElem_cons_zero,Act.put,List.setIfInBounds_toArray,List.set_cons_zero,List.set_cons_succ]
         (refine tk 12 ?_;refine tk 13 ?_)
         refine wpAnyH_ready (rs:=[14]) (by kernel_rfl) (by simp) ?_
         refine AllReadyH.cons rfl (fun K hK=>?_) AllReadyH.nil
         rw[if_pos (by rfl)]
         have hD10:=hD9.out.calm (((Calm.refl w9).drew).trans hb10)
         have hfi:=imaged_mem hD10 Hf.out
         obtain⟨j0,j1,j2,j3⟩:=hD10.file hfi
         simp only[Hfx.out]at j0 j1 j2 j3
         have hfl10:x.blk<w10.heap.size:=World.block_lt_of_cell? w10 _ j0
         have hfl10b:B<w10.heap.size:=Nat.lt_of_lt_of_le (by simpa using hlt9) hb10.size
         have hD11:=box (show DiskIn (w10.setCell ⟨x.blk,0,none⟩ (.string (laid img x.off s'))) p mb _ (D.imaged (keptTo keep (j:Int).toNat D.waits (k+1))) by
          rw[hsn.out,hat2.out]
          show DiskIn _ _ _ _ (D.imaged (_++[_]))
          rw[H.out.imaged_snoc Hf.out _ ⟨x.blk,x.off,s'⟩ Hfx.out.symm]
          have hm10:=(find_some hfi).1
          refine hD10.fileTo hfi ((Keeps.refl (· = _) w10).setCell (p:=⟨x.blk,0,none⟩) (.inl Hfx.out.symm) _) (fun _=>⟨rfl,rfl⟩) ?_
          have:=heap_set (hD10.files _ hm10) 0 (.string (laid img x.off s'))
          simp only[Hfx.out,Himg.out]at this ⊢
          exact this)
         have hK11:=box (((hK9.out.drew).calm hb10).setCell (p:=⟨x.blk,0,none⟩) (.inl (.inr (.inr (.inr (List.mem_map.2 ⟨f,Hf.out,Hfx.out⟩))))) (.string (laid img x.off s')))
         clear hD10 hfi
         go_simp
         refine hK.out _ _ ?_ (fun hHeld4=>?_)
         ·have hne:(⟨B,0,none⟩:Addr).block≠x.blk:=by show B≠x.blk;omega
          obtain⟨q0,q1,q2⟩:=hHeld3
          have e4:∀k,(w10.setCell ⟨x.blk,0,none⟩ (.string (laid img x.off s'))).cell? ⟨B,k,none⟩=w10.cell? ⟨B,k,none⟩:=fun k=>by
           simp only[World.cell?];rw[heap_set_other (by omega)]
          exact⟨(e4 0).trans q0,(e4 1).trans q1,(e4 2).trans q2⟩
         clear hK K
         refine wpAnyH_done (by kernel_rfl) ?_ _
         clear hHeld hHeld2 hHeld3 hHeld4 hb10 hlaid
         go_wp2_with fail
         go_roundw
         case rel=>exact⟨k+1,by omega,by go_num,hD11.out,hK11.out⟩
         case measure=>simp [intOf];omega
      ·go_wp2_with fail
       refine(hCon.out _ ((Calm.refl wr).alloc _) _ _ (by first|exact .inl hm0.out|exact .inr rfl)).mono ?_
       rintro e w' ⟨rfl,rfl⟩
       go_wp2_with fail
       obtain⟨s',hs'⟩:∃s',s'=x.s:=⟨_,rfl⟩
       rw[←hs']
       have hat2:=box (show keptAt keep lack.toNat D.waits k=some ⟨x.blk,x.off,s'⟩ by rw[hat.out,hs'];simp)
       have hsz':=box (show s'.size≤x.s.size by rw[hs'];first|exact Nat.le_refl _|simp [ByteArray.size_extract])
       have hb9:=heap_new wr (.cells #[ptrTo x.blk,.int .i64 x.off,.string s'] 133)
       have t0:(wr.alloc (.cells #[ptrTo x.blk,.int .i64 x.off,.string s'] 133)).cell? ⟨wr.heap.size,0,none⟩=some (ptrTo x.blk):=cell_of hb9 0
       have t1:(wr.alloc (.cells #[ptrTo x.blk,.int .i64 x.off,.string s'] 133)).cell? ⟨wr.heap.size,1,none⟩=some (.int .i64 x.off):=cell_of hb9 1
       have t2:(wr.alloc (.cells #[ptrTo x.blk,.int .i64 x.off,.string s'] 133)).cell? ⟨wr.heap.size,2,none⟩=some (.string s'):=cell_of hb9 2
       have hlt9:wr.heap.size<(wr.alloc (.cells #[ptrTo x.blk,.int .i64 x.off,.string s'] 133)).heap.size:=heap_lt hb9
       have hD9:=box (HD.out.calm ((Calm.refl wr).alloc (.cells #[ptrTo x.blk,.int .i64 x.off,.string s'] 133)))
       have hK9:=box (HK.out.alloc (.cells #[ptrTo x.blk,.int .i64 x.off,.string s'] 133))
       obtain⟨fx,hfx1,hfx2⟩:=H.out.live x hxm.out
       have hxB:x.blk<wr.heap.size:=by have:=heap_lt (HD.out.files _ (find_some (imaged_mem HD.out hfx1)).1);rw[←hfx2];exact this
       clear hfx1 hfx2
       obtain⟨B,hB⟩:∃B,wr.heap.size=B:=⟨_,rfl⟩
       rw[hB]at t0 t1 t2 hlt9 hxB
       rw[hB]
       clear hb9 hs' hat hCon c0 c1 c2 hc p1 hpr hkbr HD HK
       generalize (wr.alloc (.cells #[ptrTo x.blk,.int .i64 x.off,.string s'] 133))=w9 at *
       obtain⟨f,hf,hfx⟩:=H.out.live x hxm.out
       have Hf:=box hf
       have Hfx:=box hfx
       obtain⟨img,himg⟩:∃img,lays f.image x.blk (keptTo keep lack.toNat D.waits k)=img:=⟨_,rfl⟩
       obtain⟨i0,i1,i2,i3⟩:=hD9.out.file (imaged_mem hD9.out hf)
       simp only[hfx,himg]at i0 i1 i2 i3
       have hfl9:x.blk<w9.heap.size:=World.block_lt_of_cell? w9 _ i0
       have himgs:=box (show img.size≤100000000 by rw[←himg];exact lays_size 100000000 x.blk _ _ (Hsz.out f hf) (fun y hy=>by obtain⟨z,hz,_,h2,h3⟩:=keptTo_mem hy;have:=Him.out z hz;omega))
       have Himg:=box himg
       have hlaid:=box (fun W=>laid_any img s' x.off W (by have:=himgs.out;omega) (by have:=hsz'.out;have:=Him.out x hxm.out;omega) (by have:=Him.out x hxm.out;omega))
       clear hf hfx himg
       refine wp_region_held_drew (S:=fun w'=>w'.cell? ⟨B,0,none⟩=some (ptrTo x.blk)∧w'.cell? ⟨B,1,none⟩=some (.int .i64 x.off)∧w'.cell? ⟨B,2,none⟩=some (.string s')) (by kernel_rfl) (by exact⟨t0,t1,t2⟩) (fun hHeld=>?_)
       (refine tk 0 ?_;refine tk 1 ?_;refine tk 2 ?_;refine tk 3 ?_;refine tk 4 ?_;refine tk 5 ?_)
       (refine tk 7 ?_;refine tk 8 ?_;refine tk 9 ?_;refine tk 10 ?_)
       refine wpAnyH_ready (rs:=[6]) (by kernel_rfl) (by simp) ?_
       refine AllReadyH.cons rfl (fun K hK=>?_) AllReadyH.nil
       rw[if_pos (by rfl)]
       go_simp
       refine hK.out _ _ ?_ (fun hHeld2=>?_)
       ·exact⟨by assumption,by assumption,by assumption⟩
       clear hK K
       try simp only[List.getElem_toArray,List.getElem_cons_succ,List.getElem_cons_zero,Act.put,List.setIfInBounds_toArray,List.set_cons_zero,List.set_cons_succ]
       refine wpAnyH_ready (rs:=[11]) (by kernel_rfl) (by simp) ?_
       refine AllReadyH.cons rfl (fun K hK=>?_) AllReadyH.nil
       rw[if_pos (by rfl)]
       go_simp
       refine(hlaid.out _).mono ?_
       rintro e w10 ⟨rfl,hb10⟩
       go_wp2_with fail
       refine hK.out _ _ ?_ (fun hHeld3=>?_)
       ·exact⟨by rw[hb10.cell (p:=⟨B,0,none⟩) (by simpa using hlt9)];simpa using t0,by rw[hb10.cell (p:=⟨B,1,none⟩) (by simpa using hlt9)];simpa using t1,by rw[hb10.cell (p:=⟨B,2,none⟩) (by simpa using hlt9)];simpa using t2⟩
       clear hK K
       try simp only[List.getElem_toArray,List.getElem_cons_succ,List.getElem_cons_zero,Act.put,List.setIfInBounds_toArray,List.set_cons_zero,List.set_cons_succ]
       (refine tk 12 ?_;refine tk 13 ?_)
       refine wpAnyH_ready (rs:=[14]) (by kernel_rfl) (by simp) ?_
       refine AllReadyH.cons rfl (fun K hK=>?_) AllReadyH.nil
       rw[if_pos (by rfl)]
       have hD10:=hD9.out.calm (((Calm.refl w9).drew).trans hb10)
       have hfi:=imaged_mem hD10 Hf.out
       obtain⟨j0,j1,j2,j3⟩:=hD10.file hfi
       simp only[Hfx.out]at j0 j1 j2 j3
       have hfl10:x.blk<w10.heap.size:=World.block_lt_of_cell? w10 _ j0
       have hfl10b:B<w10.heap.size:=Nat.lt_of_lt_of_le (by simpa using hlt9) hb10.size
       have hD11:=box (show DiskIn (w10.setCell ⟨x.blk,0,none⟩ (.string (laid img x.off s'))) p mb _ (D.imaged (keptTo keep lack.toNat D.waits (k+1))) by
        rw[hsn.out,hat2.out]
        show DiskIn _ _ _ _ (D.imaged (_++[_]))
        rw[H.out.imaged_snoc Hf.out _ ⟨x.blk,x.off,s'⟩ Hfx.out.symm]
        have hm10:=(find_some hfi).1
        refine hD10.fileTo hfi ((Keeps.refl (· = _) w10).setCell (p:=⟨x.blk,0,none⟩) (.inl Hfx.out.symm) _) (fun _=>⟨rfl,rfl⟩) ?_
        have:=heap_set (hD10.files _ hm10) 0 (.string (laid img x.off s'))
        simp only[Hfx.out,Himg.out]at this ⊢
        exact this)
       have hK11:=box (((hK9.out.drew).calm hb10).setCell (p:=⟨x.blk,0,none⟩) (.inl (.inr (.inr (.inr (List.mem_map.2 ⟨f,Hf.out,Hfx.out⟩))))) (.string (laid img x.off s')))
       clear hD10 hfi
       go_simp
       refine hK.out _ _ ?_ (fun hHeld4=>?_)
       ·have hne:(⟨B,0,none⟩:Addr).block≠x.blk:=by show B≠x.blk;omega
        obtain⟨q0,q1,q2⟩:=hHeld3
        have e4:∀k,(w10.setCell ⟨x.blk,0,none⟩ (.string (laid img x.off s'))).cell? ⟨B,k,none⟩=w10.cell? ⟨B,k,none⟩:=fun k=>by
         simp only[World.cell?];rw[heap_set_other (by omega)]
        exact⟨(e4 0).trans q0,(e4 1).trans q1,(e4 2).trans q2⟩
       clear hK K
       refine wpAnyH_done (by kernel_rfl) ?_ _
       clear hHeld hHeld2 hHeld3 hHeld4 hb10 hlaid
       go_wp2_with fail
       go_roundw
       case rel=>exact⟨k+1,by omega,by go_num,hD11.out,hK11.out⟩
       case measure=>simp [intOf];omega
     ·cases ct
      ·by_cases hl0:lack<0
       ·go_wp2_with fail
        refine(hCon.out _ ((Calm.refl wr).alloc _) _ _ (by first|exact .inr rfl)).mono ?_
        rintro e w' ⟨rfl,rfl⟩
        go_wp2_with fail
        obtain⟨s',hs'⟩:∃s',s'=x.s:=⟨_,rfl⟩
        rw[←hs']
        have hat2:=box (show keptAt keep lack.toNat D.waits k=some ⟨x.blk,x.off,s'⟩ by rw[hat.out,hs'];simp [show lack.toNat=0 by omega])
        have hsz':=box (show s'.size≤x.s.size by rw[hs'];first|exact Nat.le_refl _|simp [ByteArray.size_extract])
        have hb9:=heap_new wr (.cells #[ptrTo x.blk,.int .i64 x.off,.string s'] 133)
        have t0:(wr.alloc (.cells #[ptrTo x.blk,.int .i64 x.off,.string s'] 133)).cell? ⟨wr.heap.size,0,none⟩=some (ptrTo x.blk):=cell_of hb9 0
        have t1:(wr.alloc (.cells #[ptrTo x.blk,.int .i64 x.off,.string s'] 133)).cell? ⟨wr.heap.size,1,none⟩=some (.int .i64 x.off):=cell_of hb9 1
        have t2:(wr.alloc (.cells #[ptrTo x.blk,.int .i64 x.off,.string s'] 133)).cell? ⟨wr.heap.size,2,none⟩=some (.string s'):=cell_of hb9 2
        have hlt9:wr.heap.size<(wr.alloc (.cells #[ptrTo x.blk,.int .i64 x.off,.string s'] 133)).heap.size:=heap_lt hb9
        have hD9:=box (HD.out.calm ((Calm.refl wr).alloc (.cells #[ptrTo x.blk,.int .i64 x.off,.string s'] 133)))
        have hK9:=box (HK.out.alloc (.cells #[ptrTo x.blk,.int .i64 x.off,.string s'] 133))
        obtain⟨fx,hfx1,hfx2⟩:=H.out.live x hxm.out
        have hxB:x.blk<wr.heap.size:=by have:=heap_lt (HD.out.files _ (find_some (imaged_mem HD.out hfx1)).1);rw[←hfx2];exact this
        clear hfx1 hfx2
        obtain⟨B,hB⟩:∃B,wr.heap.size=B:=⟨_,rfl⟩
        rw[hB]at t0 t1 t2 hlt9 hxB
        rw[hB]
        clear hb9 hs' hat hCon c0 c1 c2 hc p1 hpr hkbr HD HK
        generalize (wr.alloc (.cells #[ptrTo x.blk,.int .i64 x.off,.string s'] 133))=w9 at *
        obtain⟨f,hf,hfx⟩:=H.out.live x hxm.out
        have Hf:=box hf
        have Hfx:=box hfx
        obtain⟨img,himg⟩:∃img,lays f.image x.blk (keptTo keep lack.toNat D.waits k)=img:=⟨_,rfl⟩
        obtain⟨i0,i1,i2,i3⟩:=hD9.out.file (imaged_mem hD9.out hf)
        simp only[hfx,himg]at i0 i1 i2 i3
        have hfl9:x.blk<w9.heap.size:=World.block_lt_of_cell? w9 _ i0
        have himgs:=box (show img.size≤100000000 by rw[←himg];exact lays_size 100000000 x.blk _ _ (Hsz.out f hf) (fun y hy=>by obtain⟨z,hz,_,h2,h3⟩:=keptTo_mem hy;have:=Him.out z hz;omega))
        have Himg:=box himg
        have hlaid:=box (fun W=>laid_any img s' x.off W (by have:=himgs.out;omega) (by have:=hsz'.out;have:=Him.out x hxm.out;omega) (by have:=Him.out x hxm.out;omega))
        clear hf hfx himg
        refine wp_region_held_drew (S:=fun w'=>w'.cell? ⟨B,0,none⟩=some (ptrTo x.blk)∧w'.cell? ⟨B,1,none⟩=some (.int .i64 x.off)∧w'.cell? ⟨B,2,none⟩=some (.string s')) (by kernel_rfl) (by exact⟨t0,t1,t2⟩) (fun hHeld=>?_)
        (refine tk 0 ?_;refine tk 1 ?_;refine tk 2 ?_;refine tk 3 ?_;refine tk 4 ?_;refine tk 5 ?_)
        (refine tk 7 ?_;refine tk 8 ?_;refine tk 9 ?_;refine tk 10 ?_)
        refine wpAnyH_ready (rs:=[6]) (by kernel_rfl) (by simp) ?_
        refine AllReadyH.cons rfl (fun K hK=>?_) AllReadyH.nil
        rw[if_pos (by rfl)]
        go_simp
        refine hK.out _ _ ?_ (fun hHeld2=>?_)
        ·exact⟨by assumption,by assumption,by assumption⟩
        clear hK K
        try simp only[List.getElem_toArray,List.getElem_cons_succ,List.getElem_cons_zero,Act.put,List.setIfInBounds_toArray,List.set_cons_zero,List.set_cons_succ]
        refine wpAnyH_ready (rs:=[11]) (by kernel_rfl) (by simp) ?_
        refine AllReadyH.cons rfl (fun K hK=>?_) AllReadyH.nil
        rw[if_pos (by rfl)]
        go_simp
        refine(hlaid.out _).mono ?_
        rintro e w10 ⟨rfl,hb10⟩
        go_wp2_with fail
        refine hK.out _ _ ?_ (fun hHeld3=>?_)
        ·exact⟨by rw[hb10.cell (p:=⟨B,0,none⟩) (by simpa using hlt9)];simpa using t0,by rw[hb10.cell (p:=⟨B,1,none⟩) (by simpa using hlt9)];simpa using t1,by rw[hb10.cell (p:=⟨B,2,none⟩) (by simpa using hlt9)];simpa using t2⟩
        clear hK K
        try simp only[List.getElem_toArray,List.getElem_cons_succ,List.getElem_cons_zero,Act.put,List.setIfInBounds_toArray,List.set_cons_zero,List.set_cons_succ]
        (refine tk 12 ?_;refine tk 13 ?_)
        refine wpAnyH_ready (rs:=[14]) (by kernel_rfl) (by simp) ?_
        refine AllReadyH.cons rfl (fun K hK=>?_) AllReadyH.nil
        rw[if_pos (by rfl)]
        have hD10:=hD9.out.calm (((Calm.refl w9).drew).trans hb10)
        have hfi:=imaged_mem hD10 Hf.out
        obtain⟨j0,j1,j2,j3⟩:=hD10.file hfi
        simp only[Hfx.out]at j0 j1 j2 j3
        have hfl10:x.blk<w10.heap.size:=World.block_lt_of_cell? w10 _ j0
        have hfl10b:B<w10.heap.size:=Nat.lt_of_lt_of_le (by simpa using hlt9) hb10.size
        have hD11:=box (show DiskIn (w10.setCell ⟨x.blk,0,none⟩ (.string (laid img x.off s'))) p mb _ (D.imaged (keptTo keep lack.toNat D.waits (k+1))) by
         rw[hsn.out,hat2.out]
         show DiskIn _ _ _ _ (D.imaged (_++[_]))
         rw[H.out.imaged_snoc Hf.out _ ⟨x.blk,x.off,s'⟩ Hfx.out.symm]
         have hm10:=(find_some hfi).1
         refine hD10.fileTo hfi ((Keeps.refl (· = _) w10).setCell (p:=⟨x.blk,0,none⟩) (.inl Hfx.out.symm) _) (fun _=>⟨rfl,rfl⟩) ?_
         have:=heap_set (hD10.files _ hm10) 0 (.string (laid img x.off s'))
         simp only[Hfx.out,Himg.out]at this ⊢
         exact this)
        have hK11:=box (((hK9.out.drew).calm hb10).setCell (p:=⟨x.blk,0,none⟩) (.inl (.inr (.inr (.inr (List.mem_map.2 ⟨f,Hf.out,Hfx.out⟩))))) (.string (laid img x.off s')))
        clear hD10 hfi
        go_simp
        refine hK.out _ _ ?_ (fun hHeld4=>?_)
        ·have hne:(⟨B,0,none⟩:Addr).block≠x.blk:=by show B≠x.blk;omega
         obtain⟨q0,q1,q2⟩:=hHeld3
         have e4:∀k,(w10.setCell ⟨x.blk,0,none⟩ (.string (laid img x.off s'))).cell? ⟨B,k,none⟩=w10.cell? ⟨B,k,none⟩:=fun k=>by
          simp only[World.cell?];rw[heap_set_other (by omega)]
         exact⟨(e4 0).trans q0,(e4 1).trans q1,(e4 2).trans q2⟩
        clear hK K
        refine wpAnyH_done (by kernel_rfl) ?_ _
        clear hHeld hHeld2 hHeld3 hHeld4 hb10 hlaid
        go_wp2_with fail
        go_roundw
        case rel=>exact⟨k+1,by omega,by go_num,hD11.out,hK11.out⟩
        case measure=>simp [intOf];omega
       ·obtain⟨j,hj⟩:∃j:Nat,lack=j:=⟨lack.toNat,by omega⟩
        subst hj
        by_cases hl1:(x.s.size:Int)<j
        ·go_wp2_with fail
         refine(hCon.out _ ((Calm.refl wr).alloc _) _ _ (by first|exact .inr rfl)).mono ?_
         rintro e w' ⟨rfl,rfl⟩
         go_wp2_with fail
         obtain⟨s',hs'⟩:∃s',s'=ByteArray.empty:=⟨_,rfl⟩
         rw[←hs']
         have hat2:=box (show keptAt keep (j:Int).toNat D.waits k=some ⟨x.blk,x.off,s'⟩ by rw[hat.out,hs'];simp [show x.s.size-j=0 by omega])
         have hsz':=box (show s'.size≤x.s.size by rw[hs'];first|exact Nat.le_refl _|simp [ByteArray.size_extract])
         have hb9:=heap_new wr (.cells #[ptrTo x.blk,.int .i64 x.off,.string s'] 133)
         have t0:(wr.alloc (.cells #[ptrTo x.blk,.int .i64 x.off,.string s'] 133)).cell? ⟨wr.heap.size,0,none⟩=some (ptrTo x.blk):=cell_of hb9 0
         have t1:(wr.alloc (.cells #[ptrTo x.blk,.int .i64 x.off,.string s'] 133)).cell? ⟨wr.heap.size,1,none⟩=some (.int .i64 x.off):=cell_of hb9 1
         have t2:(wr.alloc (.cells #[ptrTo x.blk,.int .i64 x.off,.string s'] 133)).cell? ⟨wr.heap.size,2,none⟩=some (.string s'):=cell_of hb9 2
         have hlt9:wr.heap.size<(wr.alloc (.cells #[ptrTo x.blk,.int .i64 x.off,.string s'] 133)).heap.size:=heap_lt hb9
         have hD9:=box (HD.out.calm ((Calm.refl wr).alloc (.cells #[ptrTo x.blk,.int .i64 x.off,.string s'] 133)))
         have hK9:=box (HK.out.alloc (.cells #[ptrTo x.blk,.int .i64 x.off,.string s'] 133))
         obtain⟨fx,hfx1,hfx2⟩:=H.out.live x hxm.out
         have hxB:x.blk<wr.heap.size:=by have:=heap_lt (HD.out.files _ (find_some (imaged_mem HD.out hfx1)).1);rw[←hfx2];exact this
         clear hfx1 hfx2
         obtain⟨B,hB⟩:∃B,wr.heap.size=B:=⟨_,rfl⟩
         rw[hB]at t0 t1 t2 hlt9 hxB
         rw[hB]
         clear hb9 hs' hat hCon c0 c1 c2 hc p1 hpr hkbr HD HK
         generalize (wr.alloc (.cells #[ptrTo x.blk,.int .i64 x.off,.string s'] 133))=w9 at *
         obtain⟨f,hf,hfx⟩:=H.out.live x hxm.out
         have Hf:=box hf
         have Hfx:=box hfx
         obtain⟨img,himg⟩:∃img,lays f.image x.blk (keptTo keep (j:Int).toNat D.waits k)=img:=⟨_,rfl⟩
         obtain⟨i0,i1,i2,i3⟩:=hD9.out.file (imaged_mem hD9.out hf)
         simp only[hfx,himg]at i0 i1 i2 i3
         have hfl9:x.blk<w9.heap.size:=World.block_lt_of_cell? w9 _ i0
         have himgs:=box (show img.size≤100000000 by rw[←himg];exact lays_size 100000000 x.blk _ _ (Hsz.out f hf) (fun y hy=>by obtain⟨z,hz,_,h2,h3⟩:=keptTo_mem hy;have:=Him.out z hz;omega))
         have Himg:=box himg
         have hlaid:=box (fun W=>laid_any img s' x.off W (by have:=himgs.out;omega) (by have:=hsz'.out;have:=Him.out x hxm.out;omega) (by have:=Him.out x hxm.out;omega))
         clear hf hfx himg
         refine wp_region_held_drew (S:=fun w'=>w'.cell? ⟨B,0,none⟩=some (ptrTo x.blk)∧w'.cell? ⟨B,1,none⟩=some (.int .i64 x.off)∧w'.cell? ⟨B,2,none⟩=some (.string s')) (by kernel_rfl) (by exact⟨t0,t1,t2⟩) (fun hHeld=>?_)
         (refine tk 0 ?_;refine tk 1 ?_;refine tk 2 ?_;refine tk 3 ?_;refine tk 4 ?_;refine tk 5 ?_)
         (refine tk 7 ?_;refine tk 8 ?_;refine tk 9 ?_;refine tk 10 ?_)
         refine wpAnyH_ready (rs:=[6]) (by kernel_rfl) (by simp) ?_
         refine AllReadyH.cons rfl (fun K hK=>?_) AllReadyH.nil
         rw[if_pos (by rfl)]
         go_simp
         refine hK.out _ _ ?_ (fun hHeld2=>?_)
         ·exact⟨by assumption,by assumption,by assumption⟩
         clear hK K
         try simp only[List.getElem_toArray,List.getElem_cons_succ,List.getElem_cons_zero,Act.put,List.setIfInBounds_toArray,List.set_cons_zero,List.set_cons_succ]
         refine wpAnyH_ready (rs:=[11]) (by kernel_rfl) (by simp) ?_
         refine AllReadyH.cons rfl (fun K hK=>?_) AllReadyH.nil
         rw[if_pos (by rfl)]
         go_simp
         refine(hlaid.out _).mono ?_
         rintro e w10 ⟨rfl,hb10⟩
         go_wp2_with fail
         refine hK.out _ _ ?_ (fun hHeld3=>?_)
         ·exact⟨by rw[hb10.cell (p:=⟨B,0,none⟩) (by simpa using hlt9)];simpa using t0,by rw[hb10.cell (p:=⟨B,1,none⟩) (by simpa using hlt9)];simpa using t1,by rw[hb10.cell (p:=⟨B,2,none⟩) (by simpa using hlt9)];simpa using t2⟩
         clear hK K
         try simp only[List.getElem_toArray,List.getElem_cons_succ,List.getElem_cons_zero,Act.put,List.setIfInBounds_toArray,List.set_cons_zero,List.set_cons_succ]
         (refine tk 12 ?_;refine tk 13 ?_)
         refine wpAnyH_ready (rs:=[14]) (by kernel_rfl) (by simp) ?_
         refine AllReadyH.cons rfl (fun K hK=>?_) AllReadyH.nil
         rw[if_pos (by rfl)]
         have hD10:=hD9.out.calm (((Calm.refl w9).drew).trans hb10)
         have hfi:=imaged_mem hD10 Hf.out
         obtain⟨j0,j1,j2,j3⟩:=hD10.file hfi
         simp only[Hfx.out]at j0 j1 j2 j3
         have hfl10:x.blk<w10.heap.size:=World.block_lt_of_cell? w10 _ j0
         have hfl10b:B<w10.heap.size:=Nat.lt_of_lt_of_le (by simpa using hlt9) hb10.size
         have hD11:=box (show DiskIn (w10.setCell ⟨x.blk,0,none⟩ (.string (laid img x.off s'))) p mb _ (D.imaged (keptTo keep (j:Int).toNat D.waits (k+1))) by
          rw[hsn.out,hat2.out]
          show DiskIn _ _ _ _ (D.imaged (_++[_]))
          rw[H.out.imaged_snoc Hf.out _ ⟨x.blk,x.off,s'⟩ Hfx.out.symm]
          have hm10:=(find_some hfi).1
          refine hD10.fileTo hfi ((Keeps.refl (· = _) w10).setCell (p:=⟨x.blk,0,none⟩) (.inl Hfx.out.symm) _) (fun _=>⟨rfl,rfl⟩) ?_
          have:=heap_set (hD10.files _ hm10) 0 (.string (laid img x.off s'))
          simp only[Hfx.out,Himg.out]at this ⊢
          exact this)
         have hK11:=box (((hK9.out.drew).calm hb10).setCell (p:=⟨x.blk,0,none⟩) (.inl (.inr (.inr (.inr (List.mem_map.2 ⟨f,Hf.out,Hfx.out⟩))))) (.string (laid img x.off s')))
         clear hD10 hfi
         go_simp
         refine hK.out _ _ ?_ (fun hHeld4=>?_)
         ·have hne:(⟨B,0,none⟩:Addr).block≠x.blk:=by show B≠x.blk;omega
          obtain⟨q0,q1,q2⟩:=hHeld3
          have e4:∀k,(w10.setCell ⟨x.blk,0,none⟩ (.string (laid img x.off s'))).cell? ⟨B,k,none⟩=w10.cell? ⟨B,k,none⟩:=fun k=>by
           simp only[World.cell?];rw[heap_set_other (by omega)]
          exact⟨(e4 0).trans q0,(e4 1).trans q1,(e4 2).trans q2⟩
         clear hK K
         refine wpAnyH_done (by kernel_rfl) ?_ _
         clear hHeld hHeld2 hHeld3 hHeld4 hb10 hlaid
         go_wp2_with fail
         go_roundw
         case rel=>exact⟨k+1,by omega,by go_num,hD11.out,hK11.out⟩
         case measure=>simp [intOf];omega
        ·go_wp2_with fail
         refine(hCon.out _ ((Calm.refl wr).alloc _) _ _ (by first|exact .inr rfl)).mono ?_
         rintro e w' ⟨rfl,rfl⟩
         go_wp2_with fail
         obtain⟨s',hs'⟩:∃s',s'=x.s.extract 0 (x.s.size-j):=⟨_,rfl⟩
         rw[←hs']
         have hat2:=box (show keptAt keep (j:Int).toNat D.waits k=some ⟨x.blk,x.off,s'⟩ by rw[hat.out,hs'];simp)
         have hsz':=box (show s'.size≤x.s.size by rw[hs'];first|exact Nat.le_refl _|simp [ByteArray.size_extract])
         have hb9:=heap_new wr (.cells #[ptrTo x.blk,.int .i64 x.off,.string s'] 133)
         have t0:(wr.alloc (.cells #[ptrTo x.blk,.int .i64 x.off,.string s'] 133)).cell? ⟨wr.heap.size,0,none⟩=some (ptrTo x.blk):=cell_of hb9 0
         have t1:(wr.alloc (.cells #[ptrTo x.blk,.int .i64 x.off,.string s'] 133)).cell? ⟨wr.heap.size,1,none⟩=some (.int .i64 x.off):=cell_of hb9 1
         have t2:(wr.alloc (.cells #[ptrTo x.blk,.int .i64 x.off,.string s'] 133)).cell? ⟨wr.heap.size,2,none⟩=some (.string s'):=cell_of hb9 2
         have hlt9:wr.heap.size<(wr.alloc (.cells #[ptrTo x.blk,.int .i64 x.off,.string s'] 133)).heap.size:=heap_lt hb9
         have hD9:=box (HD.out.calm ((Calm.refl wr).alloc (.cells #[ptrTo x.blk,.int .i64 x.off,.string s'] 133)))
         have hK9:=box (HK.out.alloc (.cells #[ptrTo x.blk,.int .i64 x.off,.string s'] 133))
         obtain⟨fx,hfx1,hfx2⟩:=H.out.live x hxm.out
         have hxB:x.blk<wr.heap.size:=by have:=heap_lt (HD.out.files _ (find_some (imaged_mem HD.out hfx1)).1);rw[←hfx2];exact this
         clear hfx1 hfx2
         obtain⟨B,hB⟩:∃B,wr.heap.size=B:=⟨_,rfl⟩
         rw[hB]at t0 t1 t2 hlt9 hxB
         rw[hB]
         clear hb9 hs' hat hCon c0 c1 c2 hc p1 hpr hkbr HD HK
         generalize (wr.alloc (.cells #[ptrTo x.blk,.int .i64 x.off,.string s'] 133))=w9 at *
         obtain⟨f,hf,hfx⟩:=H.out.live x hxm.out
         have Hf:=box hf
         have Hfx:=box hfx
         obtain⟨img,himg⟩:∃img,lays f.image x.blk (keptTo keep (j:Int).toNat D.waits k)=img:=⟨_,rfl⟩
         obtain⟨i0,i1,i2,i3⟩:=hD9.out.file (imaged_mem hD9.out hf)
         simp only[hfx,himg]at i0 i1 i2 i3
         have hfl9:x.blk<w9.heap.size:=World.block_lt_of_cell? w9 _ i0
         have himgs:=box (show img.size≤100000000 by rw[←himg];exact lays_size 100000000 x.blk _ _ (Hsz.out f hf) (fun y hy=>by obtain⟨z,hz,_,h2,h3⟩:=keptTo_mem hy;have:=Him.out z hz;omega))
         have Himg:=box himg
         have hlaid:=box (fun W=>laid_any img s' x.off W (by have:=himgs.out;omega) (by have:=hsz'.out;have:=Him.out x hxm.out;omega) (by have:=Him.out x hxm.out;omega))
         clear hf hfx himg
         refine wp_region_held_drew (S:=fun w'=>w'.cell? ⟨B,0,none⟩=some (ptrTo x.blk)∧w'.cell? ⟨B,1,none⟩=some (.int .i64 x.off)∧w'.cell? ⟨B,2,none⟩=some (.string s')) (by kernel_rfl) (by exact⟨t0,t1,t2⟩) (fun hHeld=>?_)
         (refine tk 0 ?_;refine tk 1 ?_;refine tk 2 ?_;refine tk 3 ?_;refine tk 4 ?_;refine tk 5 ?_)
         (refine tk 7 ?_;refine tk 8 ?_;refine tk 9 ?_;refine tk 10 ?_)
         refine wpAnyH_ready (rs:=[6]) (by kernel_rfl) (by simp) ?_
         refine AllReadyH.cons rfl (fun K hK=>?_) AllReadyH.nil
         rw[if_pos (by rfl)]
         go_simp
         refine hK.out _ _ ?_ (fun hHeld2=>?_)
         ·exact⟨by assumption,by assumption,by assumption⟩
         clear hK K
         try simp only[List.getElem_toArray,List.getElem_cons_succ,List.getElem_cons_zero,Act.put,List.setIfInBounds_toArray,List.set_cons_zero,List.set_cons_succ]
         refine wpAnyH_ready (rs:=[11]) (by kernel_rfl) (by simp) ?_
         refine AllReadyH.cons rfl (fun K hK=>?_) AllReadyH.nil
         rw[if_pos (by rfl)]
         go_simp
         refine(hlaid.out _).mono ?_
         rintro e w10 ⟨rfl,hb10⟩
         go_wp2_with fail
         refine hK.out _ _ ?_ (fun hHeld3=>?_)
         ·exact⟨by rw[hb10.cell (p:=⟨B,0,none⟩) (by simpa using hlt9)];simpa using t0,by rw[hb10.cell (p:=⟨B,1,none⟩) (by simpa using hlt9)];simpa using t1,by rw[hb10.cell (p:=⟨B,2,none⟩) (by simpa using hlt9)];simpa using t2⟩
         clear hK K
         try simp only[List.getElem_toArray,List.getElem_cons_succ,List.getElem_cons_zero,Act.put,List.setIfInBounds_toArray,List.set_cons_zero,List.set_cons_succ]
         (refine tk 12 ?_;refine tk 13 ?_)
         refine wpAnyH_ready (rs:=[14]) (by kernel_rfl) (by simp) ?_
         refine AllReadyH.cons rfl (fun K hK=>?_) AllReadyH.nil
         rw[if_pos (by rfl)]
         have hD10:=hD9.out.calm (((Calm.refl w9).drew).trans hb10)
         have hfi:=imaged_mem hD10 Hf.out
         obtain⟨j0,j1,j2,j3⟩:=hD10.file hfi
         simp only[Hfx.out]at j0 j1 j2 j3
         have hfl10:x.blk<w10.heap.size:=World.block_lt_of_cell? w10 _ j0
         have hfl10b:B<w10.heap.size:=Nat.lt_of_lt_of_le (by simpa using hlt9) hb10.size
         have hD11:=box (show DiskIn (w10.setCell ⟨x.blk,0,none⟩ (.string (laid img x.off s'))) p mb _ (D.imaged (keptTo keep (j:Int).toNat D.waits (k+1))) by
          rw[hsn.out,hat2.out]
          show DiskIn _ _ _ _ (D.imaged (_++[_]))
          rw[H.out.imaged_snoc Hf.out _ ⟨x.blk,x.off,s'⟩ Hfx.out.symm]
          have hm10:=(find_some hfi).1
          refine hD10.fileTo hfi ((Keeps.refl (· = _) w10).setCell (p:=⟨x.blk,0,none⟩) (.inl Hfx.out.symm) _) (fun _=>⟨rfl,rfl⟩) ?_
          have:=heap_set (hD10.files _ hm10) 0 (.string (laid img x.off s'))
          simp only[Hfx.out,Himg.out]at this ⊢
          exact this)
         have hK11:=box (((hK9.out.drew).calm hb10).setCell (p:=⟨x.blk,0,none⟩) (.inl (.inr (.inr (.inr (List.mem_map.2 ⟨f,Hf.out,Hfx.out⟩))))) (.string (laid img x.off s')))
         clear hD10 hfi
         go_simp
         refine hK.out _ _ ?_ (fun hHeld4=>?_)
         ·have hne:(⟨B,0,none⟩:Addr).block≠x.blk:=by show B≠x.blk;omega
          obtain⟨q0,q1,q2⟩:=hHeld3
          have e4:∀k,(w10.setCell ⟨x.blk,0,none⟩ (.string (laid img x.off s'))).cell? ⟨B,k,none⟩=w10.cell? ⟨B,k,none⟩:=fun k=>by
           simp only[World.cell?];rw[heap_set_other (by omega)]
          exact⟨(e4 0).trans q0,(e4 1).trans q1,(e4 2).trans q2⟩
         clear hK K
         refine wpAnyH_done (by kernel_rfl) ?_ _
         clear hHeld hHeld2 hHeld3 hHeld4 hb10 hlaid
         go_wp2_with fail
         go_roundw
         case rel=>exact⟨k+1,by omega,by go_num,hD11.out,hK11.out⟩
         case measure=>simp [intOf];omega
      ·go_wp2_with fail
       refine(hCon.out _ ((Calm.refl wr).alloc _) _ _ (by first|exact .inr rfl)).mono ?_
       rintro e w' ⟨rfl,rfl⟩
       go_wp2_with fail
       obtain⟨s',hs'⟩:∃s',s'=x.s:=⟨_,rfl⟩
       rw[←hs']
       have hat2:=box (show keptAt keep lack.toNat D.waits k=some ⟨x.blk,x.off,s'⟩ by rw[hat.out,hs'];simp)
       have hsz':=box (show s'.size≤x.s.size by rw[hs'];first|exact Nat.le_refl _|simp [ByteArray.size_extract])
       have hb9:=heap_new wr (.cells #[ptrTo x.blk,.int .i64 x.off,.string s'] 133)
       have t0:(wr.alloc (.cells #[ptrTo x.blk,.int .i64 x.off,.string s'] 133)).cell? ⟨wr.heap.size,0,none⟩=some (ptrTo x.blk):=cell_of hb9 0
       have t1:(wr.alloc (.cells #[ptrTo x.blk,.int .i64 x.off,.string s'] 133)).cell? ⟨wr.heap.size,1,none⟩=some (.int .i64 x.off):=cell_of hb9 1
       have t2:(wr.alloc (.cells #[ptrTo x.blk,.int .i64 x.off,.string s'] 133)).cell? ⟨wr.heap.size,2,none⟩=some (.string s'):=cell_of hb9 2
       have hlt9:wr.heap.size<(wr.alloc (.cells #[ptrTo x.blk,.int .i64 x.off,.string s'] 133)).heap.size:=heap_lt hb9
       have hD9:=box (HD.out.calm ((Calm.refl wr).alloc (.cells #[ptrTo x.blk,.int .i64 x.off,.string s'] 133)))
       have hK9:=box (HK.out.alloc (.cells #[ptrTo x.blk,.int .i64 x.off,.string s'] 133))
       obtain⟨fx,hfx1,hfx2⟩:=H.out.live x hxm.out
       have hxB:x.blk<wr.heap.size:=by have:=heap_lt (HD.out.files _ (find_some (imaged_mem HD.out hfx1)).1);rw[←hfx2];exact this
       clear hfx1 hfx2
       obtain⟨B,hB⟩:∃B,wr.heap.size=B:=⟨_,rfl⟩
       rw[hB]at t0 t1 t2 hlt9 hxB
       rw[hB]
       clear hb9 hs' hat hCon c0 c1 c2 hc p1 hpr hkbr HD HK
       generalize (wr.alloc (.cells #[ptrTo x.blk,.int .i64 x.off,.string s'] 133))=w9 at *
       obtain⟨f,hf,hfx⟩:=H.out.live x hxm.out
       have Hf:=box hf
       have Hfx:=box hfx
       obtain⟨img,himg⟩:∃img,lays f.image x.blk (keptTo keep lack.toNat D.waits k)=img:=⟨_,rfl⟩
       obtain⟨i0,i1,i2,i3⟩:=hD9.out.file (imaged_mem hD9.out hf)
       simp only[hfx,himg]at i0 i1 i2 i3
       have hfl9:x.blk<w9.heap.size:=World.block_lt_of_cell? w9 _ i0
       have himgs:=box (show img.size≤100000000 by rw[←himg];exact lays_size 100000000 x.blk _ _ (Hsz.out f hf) (fun y hy=>by obtain⟨z,hz,_,h2,h3⟩:=keptTo_mem hy;have:=Him.out z hz;omega))
       have Himg:=box himg
       have hlaid:=box (fun W=>laid_any img s' x.off W (by have:=himgs.out;omega) (by have:=hsz'.out;have:=Him.out x hxm.out;omega) (by have:=Him.out x hxm.out;omega))
       clear hf hfx himg
       refine wp_region_held_drew (S:=fun w'=>w'.cell? ⟨B,0,none⟩=some (ptrTo x.blk)∧w'.cell? ⟨B,1,none⟩=some (.int .i64 x.off)∧w'.cell? ⟨B,2,none⟩=some (.string s')) (by kernel_rfl) (by exact⟨t0,t1,t2⟩) (fun hHeld=>?_)
       (refine tk 0 ?_;refine tk 1 ?_;refine tk 2 ?_;refine tk 3 ?_;refine tk 4 ?_;refine tk 5 ?_)
       (refine tk 7 ?_;refine tk 8 ?_;refine tk 9 ?_;refine tk 10 ?_)
       refine wpAnyH_ready (rs:=[6]) (by kernel_rfl) (by simp) ?_
       refine AllReadyH.cons rfl (fun K hK=>?_) AllReadyH.nil
       rw[if_pos (by rfl)]
       go_simp
       refine hK.out _ _ ?_ (fun hHeld2=>?_)
       ·exact⟨by assumption,by assumption,by assumption⟩
       clear hK K
       try simp only[List.getElem_toArray,List.getElem_cons_succ,List.getElem_cons_zero,Act.put,List.setIfInBounds_toArray,List.set_cons_zero,List.set_cons_succ]
       refine wpAnyH_ready (rs:=[11]) (by kernel_rfl) (by simp) ?_
       refine AllReadyH.cons rfl (fun K hK=>?_) AllReadyH.nil
       rw[if_pos (by rfl)]
       go_simp
       refine(hlaid.out _).mono ?_
       rintro e w10 ⟨rfl,hb10⟩
       go_wp2_with fail
       refine hK.out _ _ ?_ (fun hHeld3=>?_)
       ·exact⟨by rw[hb10.cell (p:=⟨B,0,none⟩) (by simpa using hlt9)];simpa using t0,by rw[hb10.cell (p:=⟨B,1,none⟩) (by simpa using hlt9)];simpa using t1,by rw[hb10.cell (p:=⟨B,2,none⟩) (by simpa using hlt9)];simpa using t2⟩
       clear hK K
       try simp only[List.getElem_toArray,List.getElem_cons_succ,List.getElem_cons_zero,Act.put,List.setIfInBounds_toArray,List.set_cons_zero,List.set_cons_succ]
       (refine tk 12 ?_;refine tk 13 ?_)
       refine wpAnyH_ready (rs:=[14]) (by kernel_rfl) (by simp) ?_
       refine AllReadyH.cons rfl (fun K hK=>?_) AllReadyH.nil
       rw[if_pos (by rfl)]
       have hD10:=hD9.out.calm (((Calm.refl w9).drew).trans hb10)
       have hfi:=imaged_mem hD10 Hf.out
       obtain⟨j0,j1,j2,j3⟩:=hD10.file hfi
       simp only[Hfx.out]at j0 j1 j2 j3
       have hfl10:x.blk<w10.heap.size:=World.block_lt_of_cell? w10 _ j0
       have hfl10b:B<w10.heap.size:=Nat.lt_of_lt_of_le (by simpa using hlt9) hb10.size
       have hD11:=box (show DiskIn (w10.setCell ⟨x.blk,0,none⟩ (.string (laid img x.off s'))) p mb _ (D.imaged (keptTo keep lack.toNat D.waits (k+1))) by
        rw[hsn.out,hat2.out]
        show DiskIn _ _ _ _ (D.imaged (_++[_]))
        rw[H.out.imaged_snoc Hf.out _ ⟨x.blk,x.off,s'⟩ Hfx.out.symm]
        have hm10:=(find_some hfi).1
        refine hD10.fileTo hfi ((Keeps.refl (· = _) w10).setCell (p:=⟨x.blk,0,none⟩) (.inl Hfx.out.symm) _) (fun _=>⟨rfl,rfl⟩) ?_
        have:=heap_set (hD10.files _ hm10) 0 (.string (laid img x.off s'))
        simp only[Hfx.out,Himg.out]at this ⊢
        exact this)
       have hK11:=box (((hK9.out.drew).calm hb10).setCell (p:=⟨x.blk,0,none⟩) (.inl (.inr (.inr (.inr (List.mem_map.2 ⟨f,Hf.out,Hfx.out⟩))))) (.string (laid img x.off s')))
       clear hD10 hfi
       go_simp
       refine hK.out _ _ ?_ (fun hHeld4=>?_)
       ·have hne:(⟨B,0,none⟩:Addr).block≠x.blk:=by show B≠x.blk;omega
        obtain⟨q0,q1,q2⟩:=hHeld3
        have e4:∀k,(w10.setCell ⟨x.blk,0,none⟩ (.string (laid img x.off s'))).cell? ⟨B,k,none⟩=w10.cell? ⟨B,k,none⟩:=fun k=>by
         simp only[World.cell?];rw[heap_set_other (by omega)]
        exact⟨(e4 0).trans q0,(e4 1).trans q1,(e4 2).trans q2⟩
       clear hK K
       refine wpAnyH_done (by kernel_rfl) ?_ _
       clear hHeld hHeld2 hHeld3 hHeld4 hb10 hlaid
       go_wp2_with fail
       go_roundw
       case rel=>exact⟨k+1,by omega,by go_num,hD11.out,hK11.out⟩
       case measure=>simp [intOf];omega
   ·obtain rfl:k=m:=by omega
    obtain⟨c0,c1,c2,c3,c4⟩:=hD.cells
    have HDE:∃E,DiskIn wr p mb (.slice wa D.waits.length wcap) E∧Box (D.imaged (keptTo keep lack.toNat D.waits k)=E):=⟨_,hD,box rfl⟩
    obtain⟨E,hDE,HE⟩:=HDE
    have HD:=box hDE
    have HK:=box hK
    have Hbn:=box (show (E.files.map (·.blk)).Nodup from hDE.blks)
    have Hnn:=box hDE.names
    clear hD hK hDE
    obtain⟨wo,rfl⟩:∃wo:World,wo=wr:=⟨_,rfl⟩
    go_wp2_with (at_range;refine wpList_range_list rfl _ rfl Tryz.underlying90 rfl HD.out.map ?_;intro w1 hr1 hc1 hs1)
    go_frame
    go_loopw [8] (fun _ w2=>∃left:List FileS,RangeIs w2 mb wo.heap.size .string (E.files.map encF) (left.map encF)∧DiskIn w2 p mb (.slice wa D.waits.length wcap) (E.settled (left.map (·.blk)))∧Keeps (foot p mb (.slice wa D.waits.length wcap) E) wo w2∧(∀f∈left,f∈E.files)∧(left.map (·.blk)).Nodup) (fun _ w2=>w2.rangeLeft mb wo.heap.size)
    case atStart=>exact⟨E.files,hr1,by rw[settled_all];exact HD.out.calm hc1,.of_calm hc1,fun _ h=>h,Hbn.out⟩
    case round =>
     obtain⟨left,hr,hD2,hK2,hin,hnd⟩:=hrel
     have Hr:=box hr
     have Hin:=box hin
     have HD2:=box hD2
     have HK2:=box hK2
     have Hnd:=box hnd
     clear hr hin hD2 hK2 hnd
     obtain⟨d0,d1,d2,d3,d4⟩:=HD2.out.cells
     have hpw:=heap_lt HD2.out.obj
     obtain⟨w3,hcl,hrow,hk3⟩:=clear_waits HD2.out
     have hp3:w3.heap[p]? = wr.heap[p]? := hk3.block p hpw HD2.out.p_ne_row
     have e3:∀k,w3.cell? ⟨p,k,none⟩=wr.cell? ⟨p,k,none⟩:=fun k=>by simp only[World.cell?];rw[hp3]
     have q0:=(e3 0).trans d0
     have q1:=(e3 1).trans d1
     have q3:=(e3 3).trans d3
     have hpo:w3.heap[p]? = some (.cells (diskCells (E.settled (left.map (·.blk))) mb (.slice wa D.waits.length wcap)) 93 (0,0)):=hp3.trans HD2.out.obj
     have u0:=free_of hpo 0
     have u1:=free_of hpo 1
     have u3:=free_of hpo 3
     have hp3':=heap_lt hpo
     have hlast:=box (HD2.out.rowTo hk3 (L:=[]) hrow (fun g hg=>.inl (by rw[←hg];exact own_any _ _ _ _ _)) (fun x hx=>by cases hx))
     have Hk3:=box hk3
     have Hcl:=box hcl
     clear e3 hpo hrow hk3 hp3 hcl
     go_wp2_with (at_next;refine wpList_next_list rfl _ rfl rfl Hr.out ?_ ?_)
     case refine_1 =>
      intro hnil
      have hnil:=box (show left=[] by simpa using hnil)
      have hcl:=Hcl.out
      try rw[hm2.out]at hcl
      go_wp2_with fail
      go_end0
      have h8:=(hlast.out.setObj (D':={ (E.settled (left.map (·.blk))) with waits:=[],left:=-1 }) 0 (.int .i64 (-1)) rfl rfl rfl).setObj (D':={ (E.settled (left.map (·.blk))) with waits:=[],left:=-1,down:=false }) 1 (.bool false) rfl rfl rfl
      have he:({ (E.settled (left.map (·.blk))) with waits:=[],left:=-1,down:=false }:DiskS)=D.crashed keep lack:=by
       rw[hnil.out,←HE.out,←hmB.out]
       rfl
      rw[he]at h8
      refine⟨rfl,_,⟨mb,.slice wa 0 wcap,h8,rfl⟩,?_,?_⟩
      ·have k1:Keeps (foot p mb (.slice wa D.waits.length wcap) D) w w0:=.of_calm HC.out
       have hfE:∀b,foot p mb (.slice wa D.waits.length wcap) E b→foot p mb (.slice wa D.waits.length wcap) D b:=fun b hb=>by rw[←HE.out,foot_imaged]at hb;exact hb
       have k2:=k1.trans' (HK.out.trans' (HK2.out.mono (fun b _ hb=>hfE b hb)))
       have k3:=k2.trans' (Hk3.out.mono (fun b _ hb=>.inr (.inr (.inl hb))))
       have k4:=((k3.setCell (p:=⟨p,3,none⟩) (.inl (.inl rfl)) (.slice wa 0 wcap)).setCell (p:=⟨p,0,none⟩) (.inl (.inl rfl)) (.int .i64 (-1))).setCell (p:=⟨p,1,none⟩) (.inl (.inl rfl)) (.bool false)
       first|exact k4|(rw[hm2.out]at k4;exact k4)
      ·rintro b (hb|hb|hb|hb)
       ·exact .inl (.inl hb)
       ·exact .inl (.inr (.inl hb))
       ·exact .inl (.inr (.inr (.inl (by rw[←hb];exact own_any _ _ _ _ _))))
       ·refine .inl (.inr (.inr (.inr ?_)))
        rw[←he]at hb
        have hb:b∈(E.settled (left.map (·.blk))).files.map (·.blk):=hb
        rw[settled_blk,←HE.out,imaged_foot]at hb
        exact hb
     case refine_2 =>
      intro l1 x1 x2 l2 w4 hl hr3 hen hk4 hs4 f hf hfe
      simp only[encF,Prod.mk.injEq]at hfe
      obtain⟨rfl,rfl⟩:=hfe
      have hmf:∃g∈E.files,encF g=encF f:=⟨f,hf,rfl⟩
      obtain⟨L1,L2,hL,hL1,hL2⟩:∃L1 L2,left=L1++f :: L2∧L1.map encF=l1∧L2.map encF=l2:=by
       obtain⟨L1,L',hL,h1,h2⟩:=List.map_eq_append_iff.1 hl
       obtain⟨g,L2,hL',h3,h4⟩:=List.map_eq_cons_iff.1 h2
       have hg:g=f:=by
        refine nodup_inj Hbn.out (Hin.out g (by rw[hL,hL'];simp)) hf ?_
        have:(encF g).2=ptrTo f.blk:=by rw[h3]
        simpa [encF] using this
       subst hg
       exact⟨L1,L2,by rw[hL,hL'],h1,h4⟩
      have hr3':RangeIs w4 mb wo.heap.size .string (E.files.map encF) ((L1++L2).map encF):=by rw[List.map_append,hL1,hL2];exact hr3
      have hD4:=HD2.out.keep hk4 (fun b hb e=>by rw[foot_settled]at hb;have:=HD.out.foot_lt b hb;omega)
      have hnd:=Hnd.out
      rw[hL,List.map_append,List.map_cons,List.nodup_append,List.nodup_cons]at hnd
      obtain⟨hfind,hset⟩:=hD4.settle Hbn.out Hnn.out hf ((L1++L2).map (·.blk)) (fun b=>by
       rw[hL]
       simp only[List.map_append,List.map_cons,List.mem_append,List.mem_cons]
       constructor
       ·rintro(h|h)
        ·exact⟨.inl h,fun e=>hnd.2.2 b h f.blk (List.mem_cons_self ..) e⟩
        ·exact⟨.inr (.inr h),fun e=>hnd.2.1.1 (e ▸ h)⟩
       ·rintro⟨h|h|h,hne⟩
        ·exact .inl h
        ·exact absurd h hne
        ·exact .inr h) (by rw[hL];simp)
      obtain⟨i0,i1,i2,i3⟩:=hD4.file hfind
      have hfl:=World.block_lt_of_cell? w4 _ i0
      have hfmb:=HD.out.mb_ne_file hf
      have hfr:f.blk≠wo.heap.size:=by have:=heap_lt (HD.out.files f hf);omega
      have hR5:=box (hr3'.same (w':=w4.setCell ⟨f.blk,1,none⟩ (.string f.image)) (heap_set_other hfmb.symm _ _) (heap_set_other hfr.symm _ _))
      have hlt5:=box (show (w4.setCell ⟨f.blk,1,none⟩ (.string f.image)).rangeLeft mb wo.heap.size<wr.rangeLeft mb wo.heap.size by rw[hR5.out.left_eq,Hr.out.left_eq,hL];simp)
      have hK5:=box (show Keeps (foot p mb (.slice wa D.waits.length wcap) E) wo (w4.setCell ⟨f.blk,1,none⟩ (.string f.image)) from
       Keeps.setCell (p:=⟨f.blk,1,none⟩) ⟨hk4.os.trans HK2.out.os,hk4.tape.trans HK2.out.tape,hk4.output.trans HK2.out.output,Nat.le_trans HK2.out.size hk4.size,fun b hb hn=>(hk4.block b (Nat.lt_of_lt_of_le hb HK2.out.size) (by omega)).trans (HK2.out.block b hb hn)⟩ (.inl (.inr (.inr (.inr (List.mem_map.2 ⟨f,hf,rfl⟩))))) _)
      have hset:=box hset
      have hin5:=box (show (∀g∈L1++L2,g∈E.files)∧((L1++L2).map (·.blk)).Nodup by
       refine⟨fun g hg=>Hin.out g (by rw[hL];rcases List.mem_append.1 hg with h|h<;>simp [h]),?_⟩
       rw[List.map_append,List.nodup_append]
       exact⟨hnd.1,hnd.2.1.2,fun a ha b hb=>hnd.2.2 a ha b (List.mem_cons_of_mem _ hb)⟩)
      clear hl hL hL1 hL2 hr3 hr3' hD4 hnd hfind hk4 hs4 hmf d0 d1 d2 d3 d4 q0 q1 q3 u0 u1 u3
      go_wp2_with fail
      go_roundw
      case rel=>exact⟨L1++L2,hR5.out,hset.out,hK5.out,hin5.out.1,hin5.out.2⟩
      case measure=>exact hlt5.out
 ·have hm1:keep.length≤wcap:=by omega
  have hm2:=box (show keep.length=min keep.length D.waits.length by omega)
  go_enter Tryz.func28,Tryz.ntmps28
  go_wp2_with fail
  go_region
  go_wp2_with fail
  generalize hW0:(w.alloc (.cells #[.slice ka keep.length kcap,.int .i64 lack] 58)).drew=w0
  have hc0:Calm (w.alloc (.cells #[.slice ka keep.length kcap,.int .i64 lack] 58)) w0:=by rw[←hW0];exact(Calm.refl _).drew
  have hD0:=box ((H.out.calm hcalm).calm hc0)
  have hk0:=box ((Hk.out.calm hcalm).calm hc0)
  have hplan:w0.heap[w.heap.size]? = some (.cells #[.slice ka keep.length kcap,.int .i64 lack] 58 (0,0)):=heap_calm hc0 (heap_new w _)
  have Hplan:=box hplan
  have HC:=box (hcalm.trans hc0)
  have hfoot:=box (fun b (hb:foot p mb (.slice wa D.waits.length wcap) D b)=>H.out.foot_lt b hb)
  obtain⟨m,hm⟩:∃m,min keep.length D.waits.length=m:=⟨_,rfl⟩
  have hm2:=hm2.out
  rw[hm]at hm2
  rw[hm2]
  have hm2:=box hm2
  have hmB:=box hm
  have hmk:m≤keep.length:=by omega
  have hmw:m≤D.waits.length:=by omega
  have hkm:m≤kcap:=by omega
  have hwm:m≤wcap:=by omega
  clear c0 c1 c2 c3 c4 hcalm hc0 hplan hW0 hm1 hm
  go_loopw [31] (fun i wr=>∃k:Nat,k≤m∧i=.int .i64 k∧DiskIn wr p mb (.slice wa D.waits.length wcap) (D.imaged (keptTo keep lack.toNat D.waits k))∧Keeps (foot p mb (.slice wa D.waits.length wcap) D) w0 wr) (fun i _=>m-(intOf i).toNat)
  case atStart=>exact⟨0,Nat.zero_le _,rfl,by rw[show keptTo keep lack.toNat D.waits 0=[] from rfl,imaged_nil];exact hD0.out,.refl _ _⟩
  case round =>
   obtain⟨k,hk,rfl,hD,hK⟩:=hrel
   by_cases hlt:k<m
   ·have hkw:k<D.waits.length:=by omega
    have hkk:k<keep.length:=by omega
    obtain⟨kb,koff,hka,hcell⟩:=hk0.out k hkk
    subst hka
    obtain⟨g,cap,hg,hle,hgl,r0,r1,r2⟩:=hD.row (k:=k) hkw
    cases hg
    obtain⟨x,hx⟩:∃x,D.waits[k]=x:=⟨_,rfl⟩
    have hkb0:=World.block_lt_of_cell? w0 _ hcell
    have hkbr:kb<wr.heap.size:=Nat.lt_of_lt_of_le hkb0 hK.size
    have hc:wr.cell? ⟨kb,koff+k,none⟩=some (.bool keep[k]):=by
     simp only[World.cell?]at hcell ⊢
     rw[hK.block kb hkb0 (Hap.out _ _ _ rfl (by omega))];exact hcell
    have c0:wr.cell? ⟨g,k * 3,none⟩=some (ptrTo x.blk):=by rw[←hx];exact r0
    have c1:wr.cell? ⟨g,k * 3+1,none⟩=some (.int .i64 x.off):=by rw[←hx];exact r1
    have c2:wr.cell? ⟨g,k * 3+2,none⟩=some (.string x.s):=by rw[←hx];exact r2
    have hxm:=box (show x∈D.waits by rw[←hx];exact List.getElem_mem _)
    have hxs:(x.s.size:Int)≤100000000:=by have:=Him.out x hxm.out;omega
    have hsn:=box (keptTo_succ keep lack.toNat D.waits k)
    have hat:=box (show keptAt keep lack.toNat D.waits k=if keep[k] then some { x with s:=if ((keep.take D.waits.length).drop (k+1)).contains true then x.s else x.s.extract 0 (x.s.size-lack.toNat) } else none by
     unfold keptAt;rw[List.getElem?_eq_getElem hkw,List.getD_eq_getElem?_getD,List.getElem?_eq_getElem hkk,hx];rfl)
    obtain⟨y,hy⟩:∃y,keep[k]=y:=⟨_,rfl⟩
    rw[hy]at hc hat
    have HD:=box hD
    have HK:=box hK
    clear hcell hD hK hx hy r0 r1 r2 hkb0
    cases y
    ·go_wp2_with fail
     go_roundw
     case rel=>exact⟨k+1,by omega,by go_num,by rw[hsn.out,hat.out];simpa using HD.out.calm ((Calm.refl wr).alloc _),HK.out.alloc _⟩
     case measure=>simp [intOf];omega
    ·have htk:keep.take D.waits.length=keep.take m:=by rw[←hmB.out,List.take_eq_take_min,Nat.min_comm]
     have hlen:((keep.take m).drop (k+1)).length=m-(k+1):=by simp;omega
     rw[htk]at hat
     have hCon:Box (∀W,Calm wr W→∀a c,(m-(k+1)=0∨a=some ⟨kb,koff+(k+1),none⟩)→Calls Tryz.prog 66 #[.slice a (m-(k+1)) c,.bool true] W fun e w'=>e=.returned (.bool (((keep.take m).drop (k+1)).contains true))∧W=w'):=box (fun W hW a c ha=>by
      rw[←hlen]
      refine ContainsB_any a c _ W ?_ (by rw[hlen];omega)
      rcases ha with h0|rfl
      ·intro i hi;rw[hlen]at hi;omega
      ·refine BoolsAt.drop (BoolsAt.take ?_ m) (k+1)
       intro i hi
       obtain⟨b',off',e,hc'⟩:=hk0.out i hi
       cases e
       refine⟨kb,koff,rfl,?_⟩
       have hlt0:=World.block_lt_of_cell? w0 _ hc'
       have h2:wr.cell? ⟨kb,koff+i,none⟩=w0.cell? ⟨kb,koff+i,none⟩:=by simp only[World.cell?];rw[HK.out.block kb hlt0 (Hap.out _ _ _ rfl (by omega))]
       rw[hW.cell (p:=⟨kb,koff+i,none⟩) hkbr,h2];exact hc')
     obtain⟨ct,hct⟩:∃ct,((keep.take m).drop (k+1)).contains true=ct:=⟨_,rfl⟩
     rw[hct]at hCon hat
     clear hct htk hlen
     have hps:w.heap.size<w0.heap.size:=heap_lt Hplan.out
     have hpw:wr.heap[w.heap.size]? = some (.cells #[.slice (some ⟨kb,koff,none⟩) keep.length kcap,.int .i64 lack] 58 (0,0)):=(HK.out.block _ hps (fun hb=>by have:=hfoot.out _ hb;omega)).trans Hplan.out
     have p1:wr.cell? ⟨w.heap.size,1,none⟩=some (.int .i64 lack):=cell_of hpw 1
     have hpr:=heap_lt hpw
     clear hpw
     have hkc:((kcap=k+1)=True∧Box (m-(k+1)=0))∨(kcap=k+1)=False:=by
      by_cases h:kcap=k+1
      ·exact .inl ⟨eq_true h,box (by omega)⟩
      ·exact .inr (eq_false h)
     rcases hkc with ⟨hkc2,hm0⟩|hkc2
     ·cases ct
      ·by_cases hl0:lack<0
       ·go_wp2_with fail
        refine(hCon.out _ ((Calm.refl wr).alloc _) _ _ (by first|exact .inl hm0.out|exact .inr rfl)).mono ?_
        rintro e w' ⟨rfl,rfl⟩
        go_wp2_with fail
        obtain⟨s',hs'⟩:∃s',s'=x.s:=⟨_,rfl⟩
        rw[←hs']
        have hat2:=box (show keptAt keep lack.toNat D.waits k=some ⟨x.blk,x.off,s'⟩ by rw[hat.out,hs'];simp [show lack.toNat=0 by omega])
        have hsz':=box (show s'.size≤x.s.size by rw[hs'];first|exact Nat.le_refl _|simp [ByteArray.size_extract])
        have hb9:=heap_new wr (.cells #[ptrTo x.blk,.int .i64 x.off,.string s'] 133)
        have t0:(wr.alloc (.cells #[ptrTo x.blk,.int .i64 x.off,.string s'] 133)).cell? ⟨wr.heap.size,0,none⟩=some (ptrTo x.blk):=cell_of hb9 0
        have t1:(wr.alloc (.cells #[ptrTo x.blk,.int .i64 x.off,.string s'] 133)).cell? ⟨wr.heap.size,1,none⟩=some (.int .i64 x.off):=cell_of hb9 1
        have t2:(wr.alloc (.cells #[ptrTo x.blk,.int .i64 x.off,.string s'] 133)).cell? ⟨wr.heap.size,2,none⟩=some (.string s'):=cell_of hb9 2
        have hlt9:wr.heap.size<(wr.alloc (.cells #[ptrTo x.blk,.int .i64 x.off,.string s'] 133)).heap.size:=heap_lt hb9
        have hD9:=box (HD.out.calm ((Calm.refl wr).alloc (.cells #[ptrTo x.blk,.int .i64 x.off,.string s'] 133)))
        have hK9:=box (HK.out.alloc (.cells #[ptrTo x.blk,.int .i64 x.off,.string s'] 133))
        obtain⟨fx,hfx1,hfx2⟩:=H.out.live x hxm.out
        have hxB:x.blk<wr.heap.size:=by have:=heap_lt (HD.out.files _ (find_some (imaged_mem HD.out hfx1)).1);rw[←hfx2];exact this
        clear hfx1 hfx2
        obtain⟨B,hB⟩:∃B,wr.heap.size=B:=⟨_,rfl⟩
        rw[hB]at t0 t1 t2 hlt9 hxB
        rw[hB]
        clear hb9 hs' hat hCon c0 c1 c2 hc p1 hpr hkbr HD HK
        generalize (wr.alloc (.cells #[ptrTo x.blk,.int .i64 x.off,.string s'] 133))=w9 at *
        obtain⟨f,hf,hfx⟩:=H.out.live x hxm.out
        have Hf:=box hf
        have Hfx:=box hfx
        obtain⟨img,himg⟩:∃img,lays f.image x.blk (keptTo keep lack.toNat D.waits k)=img:=⟨_,rfl⟩
        obtain⟨i0,i1,i2,i3⟩:=hD9.out.file (imaged_mem hD9.out hf)
        simp only[hfx,himg]at i0 i1 i2 i3
        have hfl9:x.blk<w9.heap.size:=World.block_lt_of_cell? w9 _ i0
        have himgs:=box (show img.size≤100000000 by rw[←himg];exact lays_size 100000000 x.blk _ _ (Hsz.out f hf) (fun y hy=>by obtain⟨z,hz,_,h2,h3⟩:=keptTo_mem hy;have:=Him.out z hz;omega))
        have Himg:=box himg
        have hlaid:=box (fun W=>laid_any img s' x.off W (by have:=himgs.out;omega) (by have:=hsz'.out;have:=Him.out x hxm.out;omega) (by have:=Him.out x hxm.out;omega))
        clear hf hfx himg
        refine wp_region_held_drew (S:=fun w'=>w'.cell? ⟨B,0,none⟩=some (ptrTo x.blk)∧w'.cell? ⟨B,1,none⟩=some (.int .i64 x.off)∧w'.cell? ⟨B,2,none⟩=some (.string s')) (by kernel_rfl) (by exact⟨t0,t1,t2⟩) (fun hHeld=>?_)
        (refine tk 0 ?_;refine tk 1 ?_;refine tk 2 ?_;refine tk 3 ?_;refine tk 4 ?_;refine tk 5 ?_)
        (refine tk 7 ?_;refine tk 8 ?_;refine tk 9 ?_;refine tk 10 ?_)
        refine wpAnyH_ready (rs:=[6]) (by kernel_rfl) (by simp) ?_
        refine AllReadyH.cons rfl (fun K hK=>?_) AllReadyH.nil
        rw[if_pos (by rfl)]
        go_simp
        refine hK.out _ _ ?_ (fun hHeld2=>?_)
        ·exact⟨by assumption,by assumption,by assumption⟩
        clear hK K
        try simp only[List.getElem_toArray,List.getElem_cons_succ,List.getElem_cons_zero,Act.put,List.setIfInBounds_toArray,List.set_cons_zero,List.set_cons_succ]
        refine wpAnyH_ready (rs:=[11]) (by kernel_rfl) (by simp) ?_
        refine AllReadyH.cons rfl (fun K hK=>?_) AllReadyH.nil
        rw[if_pos (by rfl)]
        go_simp
        refine(hlaid.out _).mono ?_
        rintro e w10 ⟨rfl,hb10⟩
        go_wp2_with fail
        refine hK.out _ _ ?_ (fun hHeld3=>?_)
        ·exact⟨by rw[hb10.cell (p:=⟨B,0,none⟩) (by simpa using hlt9)];simpa using t0,by rw[hb10.cell (p:=⟨B,1,none⟩) (by simpa using hlt9)];simpa using t1,by rw[hb10.cell (p:=⟨B,2,none⟩) (by simpa using hlt9)];simpa using t2⟩
        clear hK K
        try simp only[List.getElem_toArray,List.getElem_cons_succ,List.getElem_cons_zero,Act.put,List.setIfInBounds_toArray,List.set_cons_zero,List.set_cons_succ]
        (refine tk 12 ?_;refine tk 13 ?_)
        refine wpAnyH_ready (rs:=[14]) (by kernel_rfl) (by simp) ?_
        refine AllReadyH.cons rfl (fun K hK=>?_) AllReadyH.nil
        rw[if_pos (by rfl)]
        have hD10:=hD9.out.calm (((Calm.refl w9).drew).trans hb10)
        have hfi:=imaged_mem hD10 Hf.out
        obtain⟨j0,j1,j2,j3⟩:=hD10.file hfi
        simp only[Hfx.out]at j0 j1 j2 j3
        have hfl10:x.blk<w10.heap.size:=World.block_lt_of_cell? w10 _ j0
        have hfl10b:B<w10.heap.size:=Nat.lt_of_lt_of_le (by simpa using hlt9) hb10.size
        have hD11:=box (show DiskIn (w10.setCell ⟨x.blk,0,none⟩ (.string (laid img x.off s'))) p mb _ (D.imaged (keptTo keep lack.toNat D.waits (k+1))) by
         rw[hsn.out,hat2.out]
         show DiskIn _ _ _ _ (D.imaged (_++[_]))
         rw[H.out.imaged_snoc Hf.out _ ⟨x.blk,x.off,s'⟩ Hfx.out.symm]
         have hm10:=(find_some hfi).1
         refine hD10.fileTo hfi ((Keeps.refl (· = _) w10).setCell (p:=⟨x.blk,0,none⟩) (.inl Hfx.out.symm) _) (fun _=>⟨rfl,rfl⟩) ?_
         have:=heap_set (hD10.files _ hm10) 0 (.string (laid img x.off s'))
         simp only[Hfx.out,Himg.out]at this ⊢
         exact this)
        have hK11:=box (((hK9.out.drew).calm hb10).setCell (p:=⟨x.blk,0,none⟩) (.inl (.inr (.inr (.inr (List.mem_map.2 ⟨f,Hf.out,Hfx.out⟩))))) (.string (laid img x.off s')))
        clear hD10 hfi
        go_simp
        refine hK.out _ _ ?_ (fun hHeld4=>?_)
        ·have hne:(⟨B,0,none⟩:Addr).block≠x.blk:=by show B≠x.blk;omega
         obtain⟨q0,q1,q2⟩:=hHeld3
         have e4:∀k,(w10.setCell ⟨x.blk,0,none⟩ (.string (laid img x.off s'))).cell? ⟨B,k,none⟩=w10.cell? ⟨B,k,none⟩:=fun k=>by
          simp only[World.cell?];rw[heap_set_other (by omega)]
         exact⟨(e4 0).trans q0,(e4 1).trans q1,(e4 2).trans q2⟩
        clear hK K
        refine wpAnyH_done (by kernel_rfl) ?_ _
        clear hHeld hHeld2 hHeld3 hHeld4 hb10 hlaid
        go_wp2_with fail
        go_roundw
        case rel=>exact⟨k+1,by omega,by go_num,hD11.out,hK11.out⟩
        case measure=>simp [intOf];omega
       ·obtain⟨j,hj⟩:∃j:Nat,lack=j:=⟨lack.toNat,by omega⟩
        subst hj
        by_cases hl1:(x.s.size:Int)<j
        ·go_wp2_with fail
         refine(hCon.out _ ((Calm.refl wr).alloc _) _ _ (by first|exact .inl hm0.out|exact .inr rfl)).mono ?_
         rintro e w' ⟨rfl,rfl⟩
         go_wp2_with fail
         obtain⟨s',hs'⟩:∃s',s'=ByteArray.empty:=⟨_,rfl⟩
         rw[←hs']
         have hat2:=box (show keptAt keep (j:Int).toNat D.waits k=some ⟨x.blk,x.off,s'⟩ by rw[hat.out,hs'];simp [show x.s.size-j=0 by omega])
         have hsz':=box (show s'.size≤x.s.size by rw[hs'];first|exact Nat.le_refl _|simp [ByteArray.size_extract])
         have hb9:=heap_new wr (.cells #[ptrTo x.blk,.int .i64 x.off,.string s'] 133)
         have t0:(wr.alloc (.cells #[ptrTo x.blk,.int .i64 x.off,.string s'] 133)).cell? ⟨wr.heap.size,0,none⟩=some (ptrTo x.blk):=cell_of hb9 0
         have t1:(wr.alloc (.cells #[ptrTo x.blk,.int .i64 x.off,.string s'] 133)).cell? ⟨wr.heap.size,1,none⟩=some (.int .i64 x.off):=cell_of hb9 1
         have t2:(wr.alloc (.cells #[ptrTo x.blk,.int .i64 x.off,.string s'] 133)).cell? ⟨wr.heap.size,2,none⟩=some (.string s'):=cell_of hb9 2
         have hlt9:wr.heap.size<(wr.alloc (.cells #[ptrTo x.blk,.int .i64 x.off,.string s'] 133)).heap.size:=heap_lt hb9
         have hD9:=box (HD.out.calm ((Calm.refl wr).alloc (.cells #[ptrTo x.blk,.int .i64 x.off,.string s'] 133)))
         have hK9:=box (HK.out.alloc (.cells #[ptrTo x.blk,.int .i64 x.off,.string s'] 133))
         obtain⟨fx,hfx1,hfx2⟩:=H.out.live x hxm.out
         have hxB:x.blk<wr.heap.size:=by have:=heap_lt (HD.out.files _ (find_some (imaged_mem HD.out hfx1)).1);rw[←hfx2];exact this
         clear hfx1 hfx2
         obtain⟨B,hB⟩:∃B,wr.heap.size=B:=⟨_,rfl⟩
         rw[hB]at t0 t1 t2 hlt9 hxB
         rw[hB]
         clear hb9 hs' hat hCon c0 c1 c2 hc p1 hpr hkbr HD HK
         generalize (wr.alloc (.cells #[ptrTo x.blk,.int .i64 x.off,.string s'] 133))=w9 at *
         obtain⟨f,hf,hfx⟩:=H.out.live x hxm.out
         have Hf:=box hf
         have Hfx:=box hfx
         obtain⟨img,himg⟩:∃img,lays f.image x.blk (keptTo keep (j:Int).toNat D.waits k)=img:=⟨_,rfl⟩
         obtain⟨i0,i1,i2,i3⟩:=hD9.out.file (imaged_mem hD9.out hf)
         simp only[hfx,himg]at i0 i1 i2 i3
         have hfl9:x.blk<w9.heap.size:=World.block_lt_of_cell? w9 _ i0
         have himgs:=box (show img.size≤100000000 by rw[←himg];exact lays_size 100000000 x.blk _ _ (Hsz.out f hf) (fun y hy=>by obtain⟨z,hz,_,h2,h3⟩:=keptTo_mem hy;have:=Him.out z hz;omega))
         have Himg:=box himg
         have hlaid:=box (fun W=>laid_any img s' x.off W (by have:=himgs.out;omega) (by have:=hsz'.out;have:=Him.out x hxm.out;omega) (by have:=Him.out x hxm.out;omega))
         clear hf hfx himg
         refine wp_region_held_drew (S:=fun w'=>w'.cell? ⟨B,0,none⟩=some (ptrTo x.blk)∧w'.cell? ⟨B,1,none⟩=some (.int .i64 x.off)∧w'.cell? ⟨B,2,none⟩=some (.string s')) (by kernel_rfl) (by exact⟨t0,t1,t2⟩) (fun hHeld=>?_)
         (refine tk 0 ?_;refine tk 1 ?_;refine tk 2 ?_;refine tk 3 ?_;refine tk 4 ?_;refine tk 5 ?_)
         (refine tk 7 ?_;refine tk 8 ?_;refine tk 9 ?_;refine tk 10 ?_)
         refine wpAnyH_ready (rs:=[6]) (by kernel_rfl) (by simp) ?_
         refine AllReadyH.cons rfl (fun K hK=>?_) AllReadyH.nil
         rw[if_pos (by rfl)]
         go_simp
         refine hK.out _ _ ?_ (fun hHeld2=>?_)
         ·exact⟨by assumption,by assumption,by assumption⟩
         clear hK K
         try simp only[List.getElem_toArray,List.getElem_cons_succ,List.getElem_cons_zero,Act.put,List.setIfInBounds_toArray,List.set_cons_zero,List.set_cons_succ]
         refine wpAnyH_ready (rs:=[11]) (by kernel_rfl) (by simp) ?_
         refine AllReadyH.cons rfl (fun K hK=>?_) AllReadyH.nil
         rw[if_pos (by rfl)]
         go_simp
         refine(hlaid.out _).mono ?_
         rintro e w10 ⟨rfl,hb10⟩
         go_wp2_with fail
         refine hK.out _ _ ?_ (fun hHeld3=>?_)
         ·exact⟨by rw[hb10.cell (p:=⟨B,0,none⟩) (by simpa using hlt9)];simpa using t0,by rw[hb10.cell (p:=⟨B,1,none⟩) (by simpa using hlt9)];simpa using t1,by rw[hb10.cell (p:=⟨B,2,none⟩) (by simpa using hlt9)];simpa using t2⟩
         clear hK K
         try simp only[List.getElem_toArray,List.getElem_cons_succ,List.getElem_cons_zero,Act.put,List.setIfInBounds_toArray,List.set_cons_zero,List.set_cons_succ]
         (refine tk 12 ?_;refine tk 13 ?_)
         refine wpAnyH_ready (rs:=[14]) (by kernel_rfl) (by simp) ?_
         refine AllReadyH.cons rfl (fun K hK=>?_) AllReadyH.nil
         rw[if_pos (by rfl)]
         have hD10:=hD9.out.calm (((Calm.refl w9).drew).trans hb10)
         have hfi:=imaged_mem hD10 Hf.out
         obtain⟨j0,j1,j2,j3⟩:=hD10.file hfi
         simp only[Hfx.out]at j0 j1 j2 j3
         have hfl10:x.blk<w10.heap.size:=World.block_lt_of_cell? w10 _ j0
         have hfl10b:B<w10.heap.size:=Nat.lt_of_lt_of_le (by simpa using hlt9) hb10.size
         have hD11:=box (show DiskIn (w10.setCell ⟨x.blk,0,none⟩ (.string (laid img x.off s'))) p mb _ (D.imaged (keptTo keep (j:Int).toNat D.waits (k+1))) by
          rw[hsn.out,hat2.out]
          show DiskIn _ _ _ _ (D.imaged (_++[_]))
          rw[H.out.imaged_snoc Hf.out _ ⟨x.blk,x.off,s'⟩ Hfx.out.symm]
          have hm10:=(find_some hfi).1
          refine hD10.fileTo hfi ((Keeps.refl (· = _) w10).setCell (p:=⟨x.blk,0,none⟩) (.inl Hfx.out.symm) _) (fun _=>⟨rfl,rfl⟩) ?_
          have:=heap_set (hD10.files _ hm10) 0 (.string (laid img x.off s'))
          simp only[Hfx.out,Himg.out]at this ⊢
          exact this)
         have hK11:=box (((hK9.out.drew).calm hb10).setCell (p:=⟨x.blk,0,none⟩) (.inl (.inr (.inr (.inr (List.mem_map.2 ⟨f,Hf.out,Hfx.out⟩))))) (.string (laid img x.off s')))
         clear hD10 hfi
         go_simp
         refine hK.out _ _ ?_ (fun hHeld4=>?_)
         ·have hne:(⟨B,0,none⟩:Addr).block≠x.blk:=by show B≠x.blk;omega
          obtain⟨q0,q1,q2⟩:=hHeld3
          have e4:∀k,(w10.setCell ⟨x.blk,0,none⟩ (.string (laid img x.off s'))).cell? ⟨B,k,none⟩=w10.cell? ⟨B,k,none⟩:=fun k=>by
           simp only[World.cell?];rw[heap_set_other (by omega)]
          exact⟨(e4 0).trans q0,(e4 1).trans q1,(e4 2).trans q2⟩
         clear hK K
         refine wpAnyH_done (by kernel_rfl) ?_ _
         clear hHeld hHeld2 hHeld3 hHeld4 hb10 hlaid
         go_wp2_with fail
         go_roundw
         case rel=>exact⟨k+1,by omega,by go_num,hD11.out,hK11.out⟩
         case measure=>simp [intOf];omega
        ·go_wp2_with fail
         refine(hCon.out _ ((Calm.refl wr).alloc _) _ _ (by first|exact .inl hm0.out|exact .inr rfl)).mono ?_
         rintro e w' ⟨rfl,rfl⟩
         go_wp2_with fail
         obtain⟨s',hs'⟩:∃s',s'=x.s.extract 0 (x.s.size-j):=⟨_,rfl⟩
         rw[←hs']
         have hat2:=box (show keptAt keep (j:Int).toNat D.waits k=some ⟨x.blk,x.off,s'⟩ by rw[hat.out,hs'];simp)
         have hsz':=box (show s'.size≤x.s.size by rw[hs'];first|exact Nat.le_refl _|simp [ByteArray.size_extract])
         have hb9:=heap_new wr (.cells #[ptrTo x.blk,.int .i64 x.off,.string s'] 133)
         have t0:(wr.alloc (.cells #[ptrTo x.blk,.int .i64 x.off,.string s'] 133)).cell? ⟨wr.heap.size,0,none⟩=some (ptrTo x.blk):=cell_of hb9 0
         have t1:(wr.alloc (.cells #[ptrTo x.blk,.int .i64 x.off,.string s'] 133)).cell? ⟨wr.heap.size,1,none⟩=some (.int .i64 x.off):=cell_of hb9 1
         have t2:(wr.alloc (.cells #[ptrTo x.blk,.int .i64 x.off,.string s'] 133)).cell? ⟨wr.heap.size,2,none⟩=some (.string s'):=cell_of hb9 2
         have hlt9:wr.heap.size<(wr.alloc (.cells #[ptrTo x.blk,.int .i64 x.off,.string s'] 133)).heap.size:=heap_lt hb9
         have hD9:=box (HD.out.calm ((Calm.refl wr).alloc (.cells #[ptrTo x.blk,.int .i64 x.off,.string s'] 133)))
         have hK9:=box (HK.out.alloc (.cells #[ptrTo x.blk,.int .i64 x.off,.string s'] 133))
         obtain⟨fx,hfx1,hfx2⟩:=H.out.live x hxm.out
         have hxB:x.blk<wr.heap.size:=by have:=heap_lt (HD.out.files _ (find_some (imaged_mem HD.out hfx1)).1);rw[←hfx2];exact this
         clear hfx1 hfx2
         obtain⟨B,hB⟩:∃B,wr.heap.size=B:=⟨_,rfl⟩
         rw[hB]at t0 t1 t2 hlt9 hxB
         rw[hB]
         clear hb9 hs' hat hCon c0 c1 c2 hc p1 hpr hkbr HD HK
         generalize (wr.alloc (.cells #[ptrTo x.blk,.int .i64 x.off,.string s'] 133))=w9 at *
         obtain⟨f,hf,hfx⟩:=H.out.live x hxm.out
         have Hf:=box hf
         have Hfx:=box hfx
         obtain⟨img,himg⟩:∃img,lays f.image x.blk (keptTo keep (j:Int).toNat D.waits k)=img:=⟨_,rfl⟩
         obtain⟨i0,i1,i2,i3⟩:=hD9.out.file (imaged_mem hD9.out hf)
         simp only[hfx,himg]at i0 i1 i2 i3
         have hfl9:x.blk<w9.heap.size:=World.block_lt_of_cell? w9 _ i0
         have himgs:=box (show img.size≤100000000 by rw[←himg];exact lays_size 100000000 x.blk _ _ (Hsz.out f hf) (fun y hy=>by obtain⟨z,hz,_,h2,h3⟩:=keptTo_mem hy;have:=Him.out z hz;omega))
         have Himg:=box himg
         have hlaid:=box (fun W=>laid_any img s' x.off W (by have:=himgs.out;omega) (by have:=hsz'.out;have:=Him.out x hxm.out;omega) (by have:=Him.out x hxm.out;omega))
         clear hf hfx himg
         refine wp_region_held_drew (S:=fun w'=>w'.cell? ⟨B,0,none⟩=some (ptrTo x.blk)∧w'.cell? ⟨B,1,none⟩=some (.int .i64 x.off)∧w'.cell? ⟨B,2,none⟩=some (.string s')) (by kernel_rfl) (by exact⟨t0,t1,t2⟩) (fun hHeld=>?_)
         (refine tk 0 ?_;refine tk 1 ?_;refine tk 2 ?_;refine tk 3 ?_;refine tk 4 ?_;refine tk 5 ?_)
         (refine tk 7 ?_;refine tk 8 ?_;refine tk 9 ?_;refine tk 10 ?_)
         refine wpAnyH_ready (rs:=[6]) (by kernel_rfl) (by simp) ?_
         refine AllReadyH.cons rfl (fun K hK=>?_) AllReadyH.nil
         rw[if_pos (by rfl)]
         go_simp
         refine hK.out _ _ ?_ (fun hHeld2=>?_)
         ·exact⟨by assumption,by assumption,by assumption⟩
         clear hK K
         try simp only[List.getElem_toArray,List.getElem_cons_succ,List.getElem_cons_zero,Act.put,List.setIfInBounds_toArray,List.set_cons_zero,List.set_cons_succ]
         refine wpAnyH_ready (rs:=[11]) (by kernel_rfl) (by simp) ?_
         refine AllReadyH.cons rfl (fun K hK=>?_) AllReadyH.nil
         rw[if_pos (by rfl)]
         go_simp
         refine(hlaid.out _).mono ?_
         rintro e w10 ⟨rfl,hb10⟩
         go_wp2_with fail
         refine hK.out _ _ ?_ (fun hHeld3=>?_)
         ·exact⟨by rw[hb10.cell (p:=⟨B,0,none⟩) (by simpa using hlt9)];simpa using t0,by rw[hb10.cell (p:=⟨B,1,none⟩) (by simpa using hlt9)];simpa using t1,by rw[hb10.cell (p:=⟨B,2,none⟩) (by simpa using hlt9)];simpa using t2⟩
         clear hK K
         try simp only[List.getElem_toArray,List.getElem_cons_succ,List.getElem_cons_zero,Act.put,List.setIfInBounds_toArray,List.set_cons_zero,List.set_cons_succ]
         (refine tk 12 ?_;refine tk 13 ?_)
         refine wpAnyH_ready (rs:=[14]) (by kernel_rfl) (by simp) ?_
         refine AllReadyH.cons rfl (fun K hK=>?_) AllReadyH.nil
         rw[if_pos (by rfl)]
         have hD10:=hD9.out.calm (((Calm.refl w9).drew).trans hb10)
         have hfi:=imaged_mem hD10 Hf.out
         obtain⟨j0,j1,j2,j3⟩:=hD10.file hfi
         simp only[Hfx.out]at j0 j1 j2 j3
         have hfl10:x.blk<w10.heap.size:=World.block_lt_of_cell? w10 _ j0
         have hfl10b:B<w10.heap.size:=Nat.lt_of_lt_of_le (by simpa using hlt9) hb10.size
         have hD11:=box (show DiskIn (w10.setCell ⟨x.blk,0,none⟩ (.string (laid img x.off s'))) p mb _ (D.imaged (keptTo keep (j:Int).toNat D.waits (k+1))) by
          rw[hsn.out,hat2.out]
          show DiskIn _ _ _ _ (D.imaged (_++[_]))
          rw[H.out.imaged_snoc Hf.out _ ⟨x.blk,x.off,s'⟩ Hfx.out.symm]
          have hm10:=(find_some hfi).1
          refine hD10.fileTo hfi ((Keeps.refl (· = _) w10).setCell (p:=⟨x.blk,0,none⟩) (.inl Hfx.out.symm) _) (fun _=>⟨rfl,rfl⟩) ?_
          have:=heap_set (hD10.files _ hm10) 0 (.string (laid img x.off s'))
          simp only[Hfx.out,Himg.out]at this ⊢
          exact this)
         have hK11:=box (((hK9.out.drew).calm hb10).setCell (p:=⟨x.blk,0,none⟩) (.inl (.inr (.inr (.inr (List.mem_map.2 ⟨f,Hf.out,Hfx.out⟩))))) (.string (laid img x.off s')))
         clear hD10 hfi
         go_simp
         refine hK.out _ _ ?_ (fun hHeld4=>?_)
         ·have hne:(⟨B,0,none⟩:Addr).block≠x.blk:=by show B≠x.blk;omega
          obtain⟨q0,q1,q2⟩:=hHeld3
          have e4:∀k,(w10.setCell ⟨x.blk,0,none⟩ (.string (laid img x.off s'))).cell? ⟨B,k,none⟩=w10.cell? ⟨B,k,none⟩:=fun k=>by
           simp only[World.cell?];rw[heap_set_other (by omega)]
          exact⟨(e4 0).trans q0,(e4 1).trans q1,(e4 2).trans q2⟩
         clear hK K
         refine wpAnyH_done (by kernel_rfl) ?_ _
         clear hHeld hHeld2 hHeld3 hHeld4 hb10 hlaid
         go_wp2_with fail
         go_roundw
         case rel=>exact⟨k+1,by omega,by go_num,hD11.out,hK11.out⟩
         case measure=>simp [intOf];omega
      ·go_wp2_with fail
       refine(hCon.out _ ((Calm.refl wr).alloc _) _ _ (by first|exact .inl hm0.out|exact .inr rfl)).mono ?_
       rintro e w' ⟨rfl,rfl⟩
       go_wp2_with fail
       obtain⟨s',hs'⟩:∃s',s'=x.s:=⟨_,rfl⟩
       rw[←hs']
       have hat2:=box (show keptAt keep lack.toNat D.waits k=some ⟨x.blk,x.off,s'⟩ by rw[hat.out,hs'];simp)
       have hsz':=box (show s'.size≤x.s.size by rw[hs'];first|exact Nat.le_refl _|simp [ByteArray.size_extract])
       have hb9:=heap_new wr (.cells #[ptrTo x.blk,.int .i64 x.off,.string s'] 133)
       have t0:(wr.alloc (.cells #[ptrTo x.blk,.int .i64 x.off,.string s'] 133)).cell? ⟨wr.heap.size,0,none⟩=some (ptrTo x.blk):=cell_of hb9 0
       have t1:(wr.alloc (.cells #[ptrTo x.blk,.int .i64 x.off,.string s'] 133)).cell? ⟨wr.heap.size,1,none⟩=some (.int .i64 x.off):=cell_of hb9 1
       have t2:(wr.alloc (.cells #[ptrTo x.blk,.int .i64 x.off,.string s'] 133)).cell? ⟨wr.heap.size,2,none⟩=some (.string s'):=cell_of hb9 2
       have hlt9:wr.heap.size<(wr.alloc (.cells #[ptrTo x.blk,.int .i64 x.off,.string s'] 133)).heap.size:=heap_lt hb9
       have hD9:=box (HD.out.calm ((Calm.refl wr).alloc (.cells #[ptrTo x.blk,.int .i64 x.off,.string s'] 133)))
       have hK9:=box (HK.out.alloc (.cells #[ptrTo x.blk,.int .i64 x.off,.string s'] 133))
       obtain⟨fx,hfx1,hfx2⟩:=H.out.live x hxm.out
       have hxB:x.blk<wr.heap.size:=by have:=heap_lt (HD.out.files _ (find_some (imaged_mem HD.out hfx1)).1);rw[←hfx2];exact this
       clear hfx1 hfx2
       obtain⟨B,hB⟩:∃B,wr.heap.size=B:=⟨_,rfl⟩
       rw[hB]at t0 t1 t2 hlt9 hxB
       rw[hB]
       clear hb9 hs' hat hCon c0 c1 c2 hc p1 hpr hkbr HD HK
       generalize (wr.alloc (.cells #[ptrTo x.blk,.int .i64 x.off,.string s'] 133))=w9 at *
       obtain⟨f,hf,hfx⟩:=H.out.live x hxm.out
       have Hf:=box hf
       have Hfx:=box hfx
       obtain⟨img,himg⟩:∃img,lays f.image x.blk (keptTo keep lack.toNat D.waits k)=img:=⟨_,rfl⟩
       obtain⟨i0,i1,i2,i3⟩:=hD9.out.file (imaged_mem hD9.out hf)
       simp only[hfx,himg]at i0 i1 i2 i3
       have hfl9:x.blk<w9.heap.size:=World.block_lt_of_cell? w9 _ i0
       have himgs:=box (show img.size≤100000000 by rw[←himg];exact lays_size 100000000 x.blk _ _ (Hsz.out f hf) (fun y hy=>by obtain⟨z,hz,_,h2,h3⟩:=keptTo_mem hy;have:=Him.out z hz;omega))
       have Himg:=box himg
       have hlaid:=box (fun W=>laid_any img s' x.off W (by have:=himgs.out;omega) (by have:=hsz'.out;have:=Him.out x hxm.out;omega) (by have:=Him.out x hxm.out;omega))
       clear hf hfx himg
       refine wp_region_held_drew (S:=fun w'=>w'.cell? ⟨B,0,none⟩=some (ptrTo x.blk)∧w'.cell? ⟨B,1,none⟩=some (.int .i64 x.off)∧w'.cell? ⟨B,2,none⟩=some (.string s')) (by kernel_rfl) (by exact⟨t0,t1,t2⟩) (fun hHeld=>?_)
       (refine tk 0 ?_;refine tk 1 ?_;refine tk 2 ?_;refine tk 3 ?_;refine tk 4 ?_;refine tk 5 ?_)
       (refine tk 7 ?_;refine tk 8 ?_;refine tk 9 ?_;refine tk 10 ?_)
       refine wpAnyH_ready (rs:=[6]) (by kernel_rfl) (by simp) ?_
       refine AllReadyH.cons rfl (fun K hK=>?_) AllReadyH.nil
       rw[if_pos (by rfl)]
       go_simp
       refine hK.out _ _ ?_ (fun hHeld2=>?_)
       ·exact⟨by assumption,by assumption,by assumption⟩
       clear hK K
       try simp only[List.getElem_toArray,List.getElem_cons_succ,List.getElem_cons_zero,Act.put,List.setIfInBounds_toArray,List.set_cons_zero,List.set_cons_succ]
       refine wpAnyH_ready (rs:=[11]) (by kernel_rfl) (by simp) ?_
       refine AllReadyH.cons rfl (fun K hK=>?_) AllReadyH.nil
       rw[if_pos (by rfl)]
       go_simp
       refine(hlaid.out _).mono ?_
       rintro e w10 ⟨rfl,hb10⟩
       go_wp2_with fail
       refine hK.out _ _ ?_ (fun hHeld3=>?_)
       ·exact⟨by rw[hb10.cell (p:=⟨B,0,none⟩) (by simpa using hlt9)];simpa using t0,by rw[hb10.cell (p:=⟨B,1,none⟩) (by simpa using hlt9)];simpa using t1,by rw[hb10.cell (p:=⟨B,2,none⟩) (by simpa using hlt9)];simpa using t2⟩
       clear hK K
       try simp only[List.getElem_toArray,List.getElem_cons_succ,List.getElem_cons_zero,Act.put,List.setIfInBounds_toArray,List.set_cons_zero,List.set_cons_succ]
       (refine tk 12 ?_;refine tk 13 ?_)
       refine wpAnyH_ready (rs:=[14]) (by kernel_rfl) (by simp) ?_
       refine AllReadyH.cons rfl (fun K hK=>?_) AllReadyH.nil
       rw[if_pos (by rfl)]
       have hD10:=hD9.out.calm (((Calm.refl w9).drew).trans hb10)
       have hfi:=imaged_mem hD10 Hf.out
       obtain⟨j0,j1,j2,j3⟩:=hD10.file hfi
       simp only[Hfx.out]at j0 j1 j2 j3
       have hfl10:x.blk<w10.heap.size:=World.block_lt_of_cell? w10 _ j0
       have hfl10b:B<w10.heap.size:=Nat.lt_of_lt_of_le (by simpa using hlt9) hb10.size
       have hD11:=box (show DiskIn (w10.setCell ⟨x.blk,0,none⟩ (.string (laid img x.off s'))) p mb _ (D.imaged (keptTo keep lack.toNat D.waits (k+1))) by
        rw[hsn.out,hat2.out]
        show DiskIn _ _ _ _ (D.imaged (_++[_]))
        rw[H.out.imaged_snoc Hf.out _ ⟨x.blk,x.off,s'⟩ Hfx.out.symm]
        have hm10:=(find_some hfi).1
        refine hD10.fileTo hfi ((Keeps.refl (· = _) w10).setCell (p:=⟨x.blk,0,none⟩) (.inl Hfx.out.symm) _) (fun _=>⟨rfl,rfl⟩) ?_
        have:=heap_set (hD10.files _ hm10) 0 (.string (laid img x.off s'))
        simp only[Hfx.out,Himg.out]at this ⊢
        exact this)
       have hK11:=box (((hK9.out.drew).calm hb10).setCell (p:=⟨x.blk,0,none⟩) (.inl (.inr (.inr (.inr (List.mem_map.2 ⟨f,Hf.out,Hfx.out⟩))))) (.string (laid img x.off s')))
       clear hD10 hfi
       go_simp
       refine hK.out _ _ ?_ (fun hHeld4=>?_)
       ·have hne:(⟨B,0,none⟩:Addr).block≠x.blk:=by show B≠x.blk;omega
        obtain⟨q0,q1,q2⟩:=hHeld3
        have e4:∀k,(w10.setCell ⟨x.blk,0,none⟩ (.string (laid img x.off s'))).cell? ⟨B,k,none⟩=w10.cell? ⟨B,k,none⟩:=fun k=>by
         simp only[World.cell?];rw[heap_set_other (by omega)]
        exact⟨(e4 0).trans q0,(e4 1).trans q1,(e4 2).trans q2⟩
       clear hK K
       refine wpAnyH_done (by kernel_rfl) ?_ _
       clear hHeld hHeld2 hHeld3 hHeld4 hb10 hlaid
       go_wp2_with fail
       go_roundw
       case rel=>exact⟨k+1,by omega,by go_num,hD11.out,hK11.out⟩
       case measure=>simp [intOf];omega
     ·cases ct
      ·by_cases hl0:lack<0
       ·go_wp2_with fail
        refine(hCon.out _ ((Calm.refl wr).alloc _) _ _ (by first|exact .inr rfl)).mono ?_
        rintro e w' ⟨rfl,rfl⟩
        go_wp2_with fail
        obtain⟨s',hs'⟩:∃s',s'=x.s:=⟨_,rfl⟩
        rw[←hs']
        have hat2:=box (show keptAt keep lack.toNat D.waits k=some ⟨x.blk,x.off,s'⟩ by rw[hat.out,hs'];simp [show lack.toNat=0 by omega])
        have hsz':=box (show s'.size≤x.s.size by rw[hs'];first|exact Nat.le_refl _|simp [ByteArray.size_extract])
        have hb9:=heap_new wr (.cells #[ptrTo x.blk,.int .i64 x.off,.string s'] 133)
        have t0:(wr.alloc (.cells #[ptrTo x.blk,.int .i64 x.off,.string s'] 133)).cell? ⟨wr.heap.size,0,none⟩=some (ptrTo x.blk):=cell_of hb9 0
        have t1:(wr.alloc (.cells #[ptrTo x.blk,.int .i64 x.off,.string s'] 133)).cell? ⟨wr.heap.size,1,none⟩=some (.int .i64 x.off):=cell_of hb9 1
        have t2:(wr.alloc (.cells #[ptrTo x.blk,.int .i64 x.off,.string s'] 133)).cell? ⟨wr.heap.size,2,none⟩=some (.string s'):=cell_of hb9 2
        have hlt9:wr.heap.size<(wr.alloc (.cells #[ptrTo x.blk,.int .i64 x.off,.string s'] 133)).heap.size:=heap_lt hb9
        have hD9:=box (HD.out.calm ((Calm.refl wr).alloc (.cells #[ptrTo x.blk,.int .i64 x.off,.string s'] 133)))
        have hK9:=box (HK.out.alloc (.cells #[ptrTo x.blk,.int .i64 x.off,.string s'] 133))
        obtain⟨fx,hfx1,hfx2⟩:=H.out.live x hxm.out
        have hxB:x.blk<wr.heap.size:=by have:=heap_lt (HD.out.files _ (find_some (imaged_mem HD.out hfx1)).1);rw[←hfx2];exact this
        clear hfx1 hfx2
        obtain⟨B,hB⟩:∃B,wr.heap.size=B:=⟨_,rfl⟩
        rw[hB]at t0 t1 t2 hlt9 hxB
        rw[hB]
        clear hb9 hs' hat hCon c0 c1 c2 hc p1 hpr hkbr HD HK
        generalize (wr.alloc (.cells #[ptrTo x.blk,.int .i64 x.off,.string s'] 133))=w9 at *
        obtain⟨f,hf,hfx⟩:=H.out.live x hxm.out
        have Hf:=box hf
        have Hfx:=box hfx
        obtain⟨img,himg⟩:∃img,lays f.image x.blk (keptTo keep lack.toNat D.waits k)=img:=⟨_,rfl⟩
        obtain⟨i0,i1,i2,i3⟩:=hD9.out.file (imaged_mem hD9.out hf)
        simp only[hfx,himg]at i0 i1 i2 i3
        have hfl9:x.blk<w9.heap.size:=World.block_lt_of_cell? w9 _ i0
        have himgs:=box (show img.size≤100000000 by rw[←himg];exact lays_size 100000000 x.blk _ _ (Hsz.out f hf) (fun y hy=>by obtain⟨z,hz,_,h2,h3⟩:=keptTo_mem hy;have:=Him.out z hz;omega))
        have Himg:=box himg
        have hlaid:=box (fun W=>laid_any img s' x.off W (by have:=himgs.out;omega) (by have:=hsz'.out;have:=Him.out x hxm.out;omega) (by have:=Him.out x hxm.out;omega))
        clear hf hfx himg
        refine wp_region_held_drew (S:=fun w'=>w'.cell? ⟨B,0,none⟩=some (ptrTo x.blk)∧w'.cell? ⟨B,1,none⟩=some (.int .i64 x.off)∧w'.cell? ⟨B,2,none⟩=some (.string s')) (by kernel_rfl) (by exact⟨t0,t1,t2⟩) (fun hHeld=>?_)
        (refine tk 0 ?_;refine tk 1 ?_;refine tk 2 ?_;refine tk 3 ?_;refine tk 4 ?_;refine tk 5 ?_)
        (refine tk 7 ?_;refine tk 8 ?_;refine tk 9 ?_;refine tk 10 ?_)
        refine wpAnyH_ready (rs:=[6]) (by kernel_rfl) (by simp) ?_
        refine AllReadyH.cons rfl (fun K hK=>?_) AllReadyH.nil
        rw[if_pos (by rfl)]
        go_simp
        refine hK.out _ _ ?_ (fun hHeld2=>?_)
        ·exact⟨by assumption,by assumption,by assumption⟩
        clear hK K
        try simp only[List.getElem_toArray,List.getElem_cons_succ,List.getElem_cons_zero,Act.put,List.setIfInBounds_toArray,List.set_cons_zero,List.set_cons_succ]
        refine wpAnyH_ready (rs:=[11]) (by kernel_rfl) (by simp) ?_
        refine AllReadyH.cons rfl (fun K hK=>?_) AllReadyH.nil
        rw[if_pos (by rfl)]
        go_simp
        refine(hlaid.out _).mono ?_
        rintro e w10 ⟨rfl,hb10⟩
        go_wp2_with fail
        refine hK.out _ _ ?_ (fun hHeld3=>?_)
        ·exact⟨by rw[hb10.cell (p:=⟨B,0,none⟩) (by simpa using hlt9)];simpa using t0,by rw[hb10.cell (p:=⟨B,1,none⟩) (by simpa using hlt9)];simpa using t1,by rw[hb10.cell (p:=⟨B,2,none⟩) (by simpa using hlt9)];simpa using t2⟩
        clear hK K
        try simp only[List.getElem_toArray,List.getElem_cons_succ,List.getElem_cons_zero,Act.put,List.setIfInBounds_toArray,List.set_cons_zero,List.set_cons_succ]
        (refine tk 12 ?_;refine tk 13 ?_)
        refine wpAnyH_ready (rs:=[14]) (by kernel_rfl) (by simp) ?_
        refine AllReadyH.cons rfl (fun K hK=>?_) AllReadyH.nil
        rw[if_pos (by rfl)]
        have hD10:=hD9.out.calm (((Calm.refl w9).drew).trans hb10)
        have hfi:=imaged_mem hD10 Hf.out
        obtain⟨j0,j1,j2,j3⟩:=hD10.file hfi
        simp only[Hfx.out]at j0 j1 j2 j3
        have hfl10:x.blk<w10.heap.size:=World.block_lt_of_cell? w10 _ j0
        have hfl10b:B<w10.heap.size:=Nat.lt_of_lt_of_le (by simpa using hlt9) hb10.size
        have hD11:=box (show DiskIn (w10.setCell ⟨x.blk,0,none⟩ (.string (laid img x.off s'))) p mb _ (D.imaged (keptTo keep lack.toNat D.waits (k+1))) by
         rw[hsn.out,hat2.out]
         show DiskIn _ _ _ _ (D.imaged (_++[_]))
         rw[H.out.imaged_snoc Hf.out _ ⟨x.blk,x.off,s'⟩ Hfx.out.symm]
         have hm10:=(find_some hfi).1
         refine hD10.fileTo hfi ((Keeps.refl (· = _) w10).setCell (p:=⟨x.blk,0,none⟩) (.inl Hfx.out.symm) _) (fun _=>⟨rfl,rfl⟩) ?_
         have:=heap_set (hD10.files _ hm10) 0 (.string (laid img x.off s'))
         simp only[Hfx.out,Himg.out]at this ⊢
         exact this)
        have hK11:=box (((hK9.out.drew).calm hb10).setCell (p:=⟨x.blk,0,none⟩) (.inl (.inr (.inr (.inr (List.mem_map.2 ⟨f,Hf.out,Hfx.out⟩))))) (.string (laid img x.off s')))
        clear hD10 hfi
        go_simp
        refine hK.out _ _ ?_ (fun hHeld4=>?_)
        ·have hne:(⟨B,0,none⟩:Addr).block≠x.blk:=by show B≠x.blk;omega
         obtain⟨q0,q1,q2⟩:=hHeld3
         have e4:∀k,(w10.setCell ⟨x.blk,0,none⟩ (.string (laid img x.off s'))).cell? ⟨B,k,none⟩=w10.cell? ⟨B,k,none⟩:=fun k=>by
          simp only[World.cell?];rw[heap_set_other (by omega)]
         exact⟨(e4 0).trans q0,(e4 1).trans q1,(e4 2).trans q2⟩
        clear hK K
        refine wpAnyH_done (by kernel_rfl) ?_ _
        clear hHeld hHeld2 hHeld3 hHeld4 hb10 hlaid
        go_wp2_with fail
        go_roundw
        case rel=>exact⟨k+1,by omega,by go_num,hD11.out,hK11.out⟩
        case measure=>simp [intOf];omega
       ·obtain⟨j,hj⟩:∃j:Nat,lack=j:=⟨lack.toNat,by omega⟩
        subst hj
        by_cases hl1:(x.s.size:Int)<j
        ·go_wp2_with fail
         refine(hCon.out _ ((Calm.refl wr).alloc _) _ _ (by first|exact .inr rfl)).mono ?_
         rintro e w' ⟨rfl,rfl⟩
         go_wp2_with fail
         obtain⟨s',hs'⟩:∃s',s'=ByteArray.empty:=⟨_,rfl⟩
         rw[←hs']
         have hat2:=box (show keptAt keep (j:Int).toNat D.waits k=some ⟨x.blk,x.off,s'⟩ by rw[hat.out,hs'];simp [show x.s.size-j=0 by omega])
         have hsz':=box (show s'.size≤x.s.size by rw[hs'];first|exact Nat.le_refl _|simp [ByteArray.size_extract])
         have hb9:=heap_new wr (.cells #[ptrTo x.blk,.int .i64 x.off,.string s'] 133)
         have t0:(wr.alloc (.cells #[ptrTo x.blk,.int .i64 x.off,.string s'] 133)).cell? ⟨wr.heap.size,0,none⟩=some (ptrTo x.blk):=cell_of hb9 0
         have t1:(wr.alloc (.cells #[ptrTo x.blk,.int .i64 x.off,.string s'] 133)).cell? ⟨wr.heap.size,1,none⟩=some (.int .i64 x.off):=cell_of hb9 1
         have t2:(wr.alloc (.cells #[ptrTo x.blk,.int .i64 x.off,.string s'] 133)).cell? ⟨wr.heap.size,2,none⟩=some (.string s'):=cell_of hb9 2
         have hlt9:wr.heap.size<(wr.alloc (.cells #[ptrTo x.blk,.int .i64 x.off,.string s'] 133)).heap.size:=heap_lt hb9
         have hD9:=box (HD.out.calm ((Calm.refl wr).alloc (.cells #[ptrTo x.blk,.int .i64 x.off,.string s'] 133)))
         have hK9:=box (HK.out.alloc (.cells #[ptrTo x.blk,.int .i64 x.off,.string s'] 133))
         obtain⟨fx,hfx1,hfx2⟩:=H.out.live x hxm.out
         have hxB:x.blk<wr.heap.size:=by have:=heap_lt (HD.out.files _ (find_some (imaged_mem HD.out hfx1)).1);rw[←hfx2];exact this
         clear hfx1 hfx2
         obtain⟨B,hB⟩:∃B,wr.heap.size=B:=⟨_,rfl⟩
         rw[hB]at t0 t1 t2 hlt9 hxB
         rw[hB]
         clear hb9 hs' hat hCon c0 c1 c2 hc p1 hpr hkbr HD HK
         generalize (wr.alloc (.cells #[ptrTo x.blk,.int .i64 x.off,.string s'] 133))=w9 at *
         obtain⟨f,hf,hfx⟩:=H.out.live x hxm.out
         have Hf:=box hf
         have Hfx:=box hfx
         obtain⟨img,himg⟩:∃img,lays f.image x.blk (keptTo keep (j:Int).toNat D.waits k)=img:=⟨_,rfl⟩
         obtain⟨i0,i1,i2,i3⟩:=hD9.out.file (imaged_mem hD9.out hf)
         simp only[hfx,himg]at i0 i1 i2 i3
         have hfl9:x.blk<w9.heap.size:=World.block_lt_of_cell? w9 _ i0
         have himgs:=box (show img.size≤100000000 by rw[←himg];exact lays_size 100000000 x.blk _ _ (Hsz.out f hf) (fun y hy=>by obtain⟨z,hz,_,h2,h3⟩:=keptTo_mem hy;have:=Him.out z hz;omega))
         have Himg:=box himg
         have hlaid:=box (fun W=>laid_any img s' x.off W (by have:=himgs.out;omega) (by have:=hsz'.out;have:=Him.out x hxm.out;omega) (by have:=Him.out x hxm.out;omega))
         clear hf hfx himg
         refine wp_region_held_drew (S:=fun w'=>w'.cell? ⟨B,0,none⟩=some (ptrTo x.blk)∧w'.cell? ⟨B,1,none⟩=some (.int .i64 x.off)∧w'.cell? ⟨B,2,none⟩=some (.string s')) (by kernel_rfl) (by exact⟨t0,t1,t2⟩) (fun hHeld=>?_)
         (refine tk 0 ?_;refine tk 1 ?_;refine tk 2 ?_;refine tk 3 ?_;refine tk 4 ?_;refine tk 5 ?_)
         (refine tk 7 ?_;refine tk 8 ?_;refine tk 9 ?_;refine tk 10 ?_)
         refine wpAnyH_ready (rs:=[6]) (by kernel_rfl) (by simp) ?_
         refine AllReadyH.cons rfl (fun K hK=>?_) AllReadyH.nil
         rw[if_pos (by rfl)]
         go_simp
         refine hK.out _ _ ?_ (fun hHeld2=>?_)
         ·exact⟨by assumption,by assumption,by assumption⟩
         clear hK K
         try simp only[List.getElem_toArray,List.getElem_cons_succ,List.getElem_cons_zero,Act.put,List.setIfInBounds_toArray,List.set_cons_zero,List.set_cons_succ]
         refine wpAnyH_ready (rs:=[11]) (by kernel_rfl) (by simp) ?_
         refine AllReadyH.cons rfl (fun K hK=>?_) AllReadyH.nil
         rw[if_pos (by rfl)]
         go_simp
         refine(hlaid.out _).mono ?_
         rintro e w10 ⟨rfl,hb10⟩
         go_wp2_with fail
         refine hK.out _ _ ?_ (fun hHeld3=>?_)
         ·exact⟨by rw[hb10.cell (p:=⟨B,0,none⟩) (by simpa using hlt9)];simpa using t0,by rw[hb10.cell (p:=⟨B,1,none⟩) (by simpa using hlt9)];simpa using t1,by rw[hb10.cell (p:=⟨B,2,none⟩) (by simpa using hlt9)];simpa using t2⟩
         clear hK K
         try simp only[List.getElem_toArray,List.getElem_cons_succ,List.getElem_cons_zero,Act.put,List.setIfInBounds_toArray,List.set_cons_zero,List.set_cons_succ]
         (refine tk 12 ?_;refine tk 13 ?_)
         refine wpAnyH_ready (rs:=[14]) (by kernel_rfl) (by simp) ?_
         refine AllReadyH.cons rfl (fun K hK=>?_) AllReadyH.nil
         rw[if_pos (by rfl)]
         have hD10:=hD9.out.calm (((Calm.refl w9).drew).trans hb10)
         have hfi:=imaged_mem hD10 Hf.out
         obtain⟨j0,j1,j2,j3⟩:=hD10.file hfi
         simp only[Hfx.out]at j0 j1 j2 j3
         have hfl10:x.blk<w10.heap.size:=World.block_lt_of_cell? w10 _ j0
         have hfl10b:B<w10.heap.size:=Nat.lt_of_lt_of_le (by simpa using hlt9) hb10.size
         have hD11:=box (show DiskIn (w10.setCell ⟨x.blk,0,none⟩ (.string (laid img x.off s'))) p mb _ (D.imaged (keptTo keep (j:Int).toNat D.waits (k+1))) by
          rw[hsn.out,hat2.out]
          show DiskIn _ _ _ _ (D.imaged (_++[_]))
          rw[H.out.imaged_snoc Hf.out _ ⟨x.blk,x.off,s'⟩ Hfx.out.symm]
          have hm10:=(find_some hfi).1
          refine hD10.fileTo hfi ((Keeps.refl (· = _) w10).setCell (p:=⟨x.blk,0,none⟩) (.inl Hfx.out.symm) _) (fun _=>⟨rfl,rfl⟩) ?_
          have:=heap_set (hD10.files _ hm10) 0 (.string (laid img x.off s'))
          simp only[Hfx.out,Himg.out]at this ⊢
          exact this)
         have hK11:=box (((hK9.out.drew).calm hb10).setCell (p:=⟨x.blk,0,none⟩) (.inl (.inr (.inr (.inr (List.mem_map.2 ⟨f,Hf.out,Hfx.out⟩))))) (.string (laid img x.off s')))
         clear hD10 hfi
         go_simp
         refine hK.out _ _ ?_ (fun hHeld4=>?_)
         ·have hne:(⟨B,0,none⟩:Addr).block≠x.blk:=by show B≠x.blk;omega
          obtain⟨q0,q1,q2⟩:=hHeld3
          have e4:∀k,(w10.setCell ⟨x.blk,0,none⟩ (.string (laid img x.off s'))).cell? ⟨B,k,none⟩=w10.cell? ⟨B,k,none⟩:=fun k=>by
           simp only[World.cell?];rw[heap_set_other (by omega)]
          exact⟨(e4 0).trans q0,(e4 1).trans q1,(e4 2).trans q2⟩
         clear hK K
         refine wpAnyH_done (by kernel_rfl) ?_ _
         clear hHeld hHeld2 hHeld3 hHeld4 hb10 hlaid
         go_wp2_with fail
         go_roundw
         case rel=>exact⟨k+1,by omega,by go_num,hD11.out,hK11.out⟩
         case measure=>simp [intOf];omega
        ·go_wp2_with fail
         refine(hCon.out _ ((Calm.refl wr).alloc _) _ _ (by first|exact .inr rfl)).mono ?_
         rintro e w' ⟨rfl,rfl⟩
         go_wp2_with fail
         obtain⟨s',hs'⟩:∃s',s'=x.s.extract 0 (x.s.size-j):=⟨_,rfl⟩
         rw[←hs']
         have hat2:=box (show keptAt keep (j:Int).toNat D.waits k=some ⟨x.blk,x.off,s'⟩ by rw[hat.out,hs'];simp)
         have hsz':=box (show s'.size≤x.s.size by rw[hs'];first|exact Nat.le_refl _|simp [ByteArray.size_extract])
         have hb9:=heap_new wr (.cells #[ptrTo x.blk,.int .i64 x.off,.string s'] 133)
         have t0:(wr.alloc (.cells #[ptrTo x.blk,.int .i64 x.off,.string s'] 133)).cell? ⟨wr.heap.size,0,none⟩=some (ptrTo x.blk):=cell_of hb9 0
         have t1:(wr.alloc (.cells #[ptrTo x.blk,.int .i64 x.off,.string s'] 133)).cell? ⟨wr.heap.size,1,none⟩=some (.int .i64 x.off):=cell_of hb9 1
         have t2:(wr.alloc (.cells #[ptrTo x.blk,.int .i64 x.off,.string s'] 133)).cell? ⟨wr.heap.size,2,none⟩=some (.string s'):=cell_of hb9 2
         have hlt9:wr.heap.size<(wr.alloc (.cells #[ptrTo x.blk,.int .i64 x.off,.string s'] 133)).heap.size:=heap_lt hb9
         have hD9:=box (HD.out.calm ((Calm.refl wr).alloc (.cells #[ptrTo x.blk,.int .i64 x.off,.string s'] 133)))
         have hK9:=box (HK.out.alloc (.cells #[ptrTo x.blk,.int .i64 x.off,.string s'] 133))
         obtain⟨fx,hfx1,hfx2⟩:=H.out.live x hxm.out
         have hxB:x.blk<wr.heap.size:=by have:=heap_lt (HD.out.files _ (find_some (imaged_mem HD.out hfx1)).1);rw[←hfx2];exact this
         clear hfx1 hfx2
         obtain⟨B,hB⟩:∃B,wr.heap.size=B:=⟨_,rfl⟩
         rw[hB]at t0 t1 t2 hlt9 hxB
         rw[hB]
         clear hb9 hs' hat hCon c0 c1 c2 hc p1 hpr hkbr HD HK
         generalize (wr.alloc (.cells #[ptrTo x.blk,.int .i64 x.off,.string s'] 133))=w9 at *
         obtain⟨f,hf,hfx⟩:=H.out.live x hxm.out
         have Hf:=box hf
         have Hfx:=box hfx
         obtain⟨img,himg⟩:∃img,lays f.image x.blk (keptTo keep (j:Int).toNat D.waits k)=img:=⟨_,rfl⟩
         obtain⟨i0,i1,i2,i3⟩:=hD9.out.file (imaged_mem hD9.out hf)
         simp only[hfx,himg]at i0 i1 i2 i3
         have hfl9:x.blk<w9.heap.size:=World.block_lt_of_cell? w9 _ i0
         have himgs:=box (show img.size≤100000000 by rw[←himg];exact lays_size 100000000 x.blk _ _ (Hsz.out f hf) (fun y hy=>by obtain⟨z,hz,_,h2,h3⟩:=keptTo_mem hy;have:=Him.out z hz;omega))
         have Himg:=box himg
         have hlaid:=box (fun W=>laid_any img s' x.off W (by have:=himgs.out;omega) (by have:=hsz'.out;have:=Him.out x hxm.out;omega) (by have:=Him.out x hxm.out;omega))
         clear hf hfx himg
         refine wp_region_held_drew (S:=fun w'=>w'.cell? ⟨B,0,none⟩=some (ptrTo x.blk)∧w'.cell? ⟨B,1,none⟩=some (.int .i64 x.off)∧w'.cell? ⟨B,2,none⟩=some (.string s')) (by kernel_rfl) (by exact⟨t0,t1,t2⟩) (fun hHeld=>?_)
         (refine tk 0 ?_;refine tk 1 ?_;refine tk 2 ?_;refine tk 3 ?_;refine tk 4 ?_;refine tk 5 ?_)
         (refine tk 7 ?_;refine tk 8 ?_;refine tk 9 ?_;refine tk 10 ?_)
         refine wpAnyH_ready (rs:=[6]) (by kernel_rfl) (by simp) ?_
         refine AllReadyH.cons rfl (fun K hK=>?_) AllReadyH.nil
         rw[if_pos (by rfl)]
         go_simp
         refine hK.out _ _ ?_ (fun hHeld2=>?_)
         ·exact⟨by assumption,by assumption,by assumption⟩
         clear hK K
         try simp only[List.getElem_toArray,List.getElem_cons_succ,List.getElem_cons_zero,Act.put,List.setIfInBounds_toArray,List.set_cons_zero,List.set_cons_succ]
         refine wpAnyH_ready (rs:=[11]) (by kernel_rfl) (by simp) ?_
         refine AllReadyH.cons rfl (fun K hK=>?_) AllReadyH.nil
         rw[if_pos (by rfl)]
         go_simp
         refine(hlaid.out _).mono ?_
         rintro e w10 ⟨rfl,hb10⟩
         go_wp2_with fail
         refine hK.out _ _ ?_ (fun hHeld3=>?_)
         ·exact⟨by rw[hb10.cell (p:=⟨B,0,none⟩) (by simpa using hlt9)];simpa using t0,by rw[hb10.cell (p:=⟨B,1,none⟩) (by simpa using hlt9)];simpa using t1,by rw[hb10.cell (p:=⟨B,2,none⟩) (by simpa using hlt9)];simpa using t2⟩
         clear hK K
         try simp only[List.getElem_toArray,List.getElem_cons_succ,List.getElem_cons_zero,Act.put,List.setIfInBounds_toArray,List.set_cons_zero,List.set_cons_succ]
         (refine tk 12 ?_;refine tk 13 ?_)
         refine wpAnyH_ready (rs:=[14]) (by kernel_rfl) (by simp) ?_
         refine AllReadyH.cons rfl (fun K hK=>?_) AllReadyH.nil
         rw[if_pos (by rfl)]
         have hD10:=hD9.out.calm (((Calm.refl w9).drew).trans hb10)
         have hfi:=imaged_mem hD10 Hf.out
         obtain⟨j0,j1,j2,j3⟩:=hD10.file hfi
         simp only[Hfx.out]at j0 j1 j2 j3
         have hfl10:x.blk<w10.heap.size:=World.block_lt_of_cell? w10 _ j0
         have hfl10b:B<w10.heap.size:=Nat.lt_of_lt_of_le (by simpa using hlt9) hb10.size
         have hD11:=box (show DiskIn (w10.setCell ⟨x.blk,0,none⟩ (.string (laid img x.off s'))) p mb _ (D.imaged (keptTo keep (j:Int).toNat D.waits (k+1))) by
          rw[hsn.out,hat2.out]
          show DiskIn _ _ _ _ (D.imaged (_++[_]))
          rw[H.out.imaged_snoc Hf.out _ ⟨x.blk,x.off,s'⟩ Hfx.out.symm]
          have hm10:=(find_some hfi).1
          refine hD10.fileTo hfi ((Keeps.refl (· = _) w10).setCell (p:=⟨x.blk,0,none⟩) (.inl Hfx.out.symm) _) (fun _=>⟨rfl,rfl⟩) ?_
          have:=heap_set (hD10.files _ hm10) 0 (.string (laid img x.off s'))
          simp only[Hfx.out,Himg.out]at this ⊢
          exact this)
         have hK11:=box (((hK9.out.drew).calm hb10).setCell (p:=⟨x.blk,0,none⟩) (.inl (.inr (.inr (.inr (List.mem_map.2 ⟨f,Hf.out,Hfx.out⟩))))) (.string (laid img x.off s')))
         clear hD10 hfi
         go_simp
         refine hK.out _ _ ?_ (fun hHeld4=>?_)
         ·have hne:(⟨B,0,none⟩:Addr).block≠x.blk:=by show B≠x.blk;omega
          obtain⟨q0,q1,q2⟩:=hHeld3
          have e4:∀k,(w10.setCell ⟨x.blk,0,none⟩ (.string (laid img x.off s'))).cell? ⟨B,k,none⟩=w10.cell? ⟨B,k,none⟩:=fun k=>by
           simp only[World.cell?];rw[heap_set_other (by omega)]
          exact⟨(e4 0).trans q0,(e4 1).trans q1,(e4 2).trans q2⟩
         clear hK K
         refine wpAnyH_done (by kernel_rfl) ?_ _
         clear hHeld hHeld2 hHeld3 hHeld4 hb10 hlaid
         go_wp2_with fail
         go_roundw
         case rel=>exact⟨k+1,by omega,by go_num,hD11.out,hK11.out⟩
         case measure=>simp [intOf];omega
      ·go_wp2_with fail
       refine(hCon.out _ ((Calm.refl wr).alloc _) _ _ (by first|exact .inr rfl)).mono ?_
       rintro e w' ⟨rfl,rfl⟩
       go_wp2_with fail
       obtain⟨s',hs'⟩:∃s',s'=x.s:=⟨_,rfl⟩
       rw[←hs']
       have hat2:=box (show keptAt keep lack.toNat D.waits k=some ⟨x.blk,x.off,s'⟩ by rw[hat.out,hs'];simp)
       have hsz':=box (show s'.size≤x.s.size by rw[hs'];first|exact Nat.le_refl _|simp [ByteArray.size_extract])
       have hb9:=heap_new wr (.cells #[ptrTo x.blk,.int .i64 x.off,.string s'] 133)
       have t0:(wr.alloc (.cells #[ptrTo x.blk,.int .i64 x.off,.string s'] 133)).cell? ⟨wr.heap.size,0,none⟩=some (ptrTo x.blk):=cell_of hb9 0
       have t1:(wr.alloc (.cells #[ptrTo x.blk,.int .i64 x.off,.string s'] 133)).cell? ⟨wr.heap.size,1,none⟩=some (.int .i64 x.off):=cell_of hb9 1
       have t2:(wr.alloc (.cells #[ptrTo x.blk,.int .i64 x.off,.string s'] 133)).cell? ⟨wr.heap.size,2,none⟩=some (.string s'):=cell_of hb9 2
       have hlt9:wr.heap.size<(wr.alloc (.cells #[ptrTo x.blk,.int .i64 x.off,.string s'] 133)).heap.size:=heap_lt hb9
       have hD9:=box (HD.out.calm ((Calm.refl wr).alloc (.cells #[ptrTo x.blk,.int .i64 x.off,.string s'] 133)))
       have hK9:=box (HK.out.alloc (.cells #[ptrTo x.blk,.int .i64 x.off,.string s'] 133))
       obtain⟨fx,hfx1,hfx2⟩:=H.out.live x hxm.out
       have hxB:x.blk<wr.heap.size:=by have:=heap_lt (HD.out.files _ (find_some (imaged_mem HD.out hfx1)).1);rw[←hfx2];exact this
       clear hfx1 hfx2
       obtain⟨B,hB⟩:∃B,wr.heap.size=B:=⟨_,rfl⟩
       rw[hB]at t0 t1 t2 hlt9 hxB
       rw[hB]
       clear hb9 hs' hat hCon c0 c1 c2 hc p1 hpr hkbr HD HK
       generalize (wr.alloc (.cells #[ptrTo x.blk,.int .i64 x.off,.string s'] 133))=w9 at *
       obtain⟨f,hf,hfx⟩:=H.out.live x hxm.out
       have Hf:=box hf
       have Hfx:=box hfx
       obtain⟨img,himg⟩:∃img,lays f.image x.blk (keptTo keep lack.toNat D.waits k)=img:=⟨_,rfl⟩
       obtain⟨i0,i1,i2,i3⟩:=hD9.out.file (imaged_mem hD9.out hf)
       simp only[hfx,himg]at i0 i1 i2 i3
       have hfl9:x.blk<w9.heap.size:=World.block_lt_of_cell? w9 _ i0
       have himgs:=box (show img.size≤100000000 by rw[←himg];exact lays_size 100000000 x.blk _ _ (Hsz.out f hf) (fun y hy=>by obtain⟨z,hz,_,h2,h3⟩:=keptTo_mem hy;have:=Him.out z hz;omega))
       have Himg:=box himg
       have hlaid:=box (fun W=>laid_any img s' x.off W (by have:=himgs.out;omega) (by have:=hsz'.out;have:=Him.out x hxm.out;omega) (by have:=Him.out x hxm.out;omega))
       clear hf hfx himg
       refine wp_region_held_drew (S:=fun w'=>w'.cell? ⟨B,0,none⟩=some (ptrTo x.blk)∧w'.cell? ⟨B,1,none⟩=some (.int .i64 x.off)∧w'.cell? ⟨B,2,none⟩=some (.string s')) (by kernel_rfl) (by exact⟨t0,t1,t2⟩) (fun hHeld=>?_)
       (refine tk 0 ?_;refine tk 1 ?_;refine tk 2 ?_;refine tk 3 ?_;refine tk 4 ?_;refine tk 5 ?_)
       (refine tk 7 ?_;refine tk 8 ?_;refine tk 9 ?_;refine tk 10 ?_)
       refine wpAnyH_ready (rs:=[6]) (by kernel_rfl) (by simp) ?_
       refine AllReadyH.cons rfl (fun K hK=>?_) AllReadyH.nil
       rw[if_pos (by rfl)]
       go_simp
       refine hK.out _ _ ?_ (fun hHeld2=>?_)
       ·exact⟨by assumption,by assumption,by assumption⟩
       clear hK K
       try simp only[List.getElem_toArray,List.getElem_cons_succ,List.getElem_cons_zero,Act.put,List.setIfInBounds_toArray,List.set_cons_zero,List.set_cons_succ]
       refine wpAnyH_ready (rs:=[11]) (by kernel_rfl) (by simp) ?_
       refine AllReadyH.cons rfl (fun K hK=>?_) AllReadyH.nil
       rw[if_pos (by rfl)]
       go_simp
       refine(hlaid.out _).mono ?_
       rintro e w10 ⟨rfl,hb10⟩
       go_wp2_with fail
       refine hK.out _ _ ?_ (fun hHeld3=>?_)
       ·exact⟨by rw[hb10.cell (p:=⟨B,0,none⟩) (by simpa using hlt9)];simpa using t0,by rw[hb10.cell (p:=⟨B,1,none⟩) (by simpa using hlt9)];simpa using t1,by rw[hb10.cell (p:=⟨B,2,none⟩) (by simpa using hlt9)];simpa using t2⟩
       clear hK K
       try simp only[List.getElem_toArray,List.getElem_cons_succ,List.getElem_cons_zero,Act.put,List.setIfInBounds_toArray,List.set_cons_zero,List.set_cons_succ]
       (refine tk 12 ?_;refine tk 13 ?_)
       refine wpAnyH_ready (rs:=[14]) (by kernel_rfl) (by simp) ?_
       refine AllReadyH.cons rfl (fun K hK=>?_) AllReadyH.nil
       rw[if_pos (by rfl)]
       have hD10:=hD9.out.calm (((Calm.refl w9).drew).trans hb10)
       have hfi:=imaged_mem hD10 Hf.out
       obtain⟨j0,j1,j2,j3⟩:=hD10.file hfi
       simp only[Hfx.out]at j0 j1 j2 j3
       have hfl10:x.blk<w10.heap.size:=World.block_lt_of_cell? w10 _ j0
       have hfl10b:B<w10.heap.size:=Nat.lt_of_lt_of_le (by simpa using hlt9) hb10.size
       have hD11:=box (show DiskIn (w10.setCell ⟨x.blk,0,none⟩ (.string (laid img x.off s'))) p mb _ (D.imaged (keptTo keep lack.toNat D.waits (k+1))) by
        rw[hsn.out,hat2.out]
        show DiskIn _ _ _ _ (D.imaged (_++[_]))
        rw[H.out.imaged_snoc Hf.out _ ⟨x.blk,x.off,s'⟩ Hfx.out.symm]
        have hm10:=(find_some hfi).1
        refine hD10.fileTo hfi ((Keeps.refl (· = _) w10).setCell (p:=⟨x.blk,0,none⟩) (.inl Hfx.out.symm) _) (fun _=>⟨rfl,rfl⟩) ?_
        have:=heap_set (hD10.files _ hm10) 0 (.string (laid img x.off s'))
        simp only[Hfx.out,Himg.out]at this ⊢
        exact this)
       have hK11:=box (((hK9.out.drew).calm hb10).setCell (p:=⟨x.blk,0,none⟩) (.inl (.inr (.inr (.inr (List.mem_map.2 ⟨f,Hf.out,Hfx.out⟩))))) (.string (laid img x.off s')))
       clear hD10 hfi
       go_simp
       refine hK.out _ _ ?_ (fun hHeld4=>?_)
       ·have hne:(⟨B,0,none⟩:Addr).block≠x.blk:=by show B≠x.blk;omega
        obtain⟨q0,q1,q2⟩:=hHeld3
        have e4:∀k,(w10.setCell ⟨x.blk,0,none⟩ (.string (laid img x.off s'))).cell? ⟨B,k,none⟩=w10.cell? ⟨B,k,none⟩:=fun k=>by
         simp only[World.cell?];rw[heap_set_other (by omega)]
        exact⟨(e4 0).trans q0,(e4 1).trans q1,(e4 2).trans q2⟩
       clear hK K
       refine wpAnyH_done (by kernel_rfl) ?_ _
       clear hHeld hHeld2 hHeld3 hHeld4 hb10 hlaid
       go_wp2_with fail
       go_roundw
       case rel=>exact⟨k+1,by omega,by go_num,hD11.out,hK11.out⟩
       case measure=>simp [intOf];omega
   ·obtain rfl:k=m:=by omega
    obtain⟨c0,c1,c2,c3,c4⟩:=hD.cells
    have HDE:∃E,DiskIn wr p mb (.slice wa D.waits.length wcap) E∧Box (D.imaged (keptTo keep lack.toNat D.waits k)=E):=⟨_,hD,box rfl⟩
    obtain⟨E,hDE,HE⟩:=HDE
    have HD:=box hDE
    have HK:=box hK
    have Hbn:=box (show (E.files.map (·.blk)).Nodup from hDE.blks)
    have Hnn:=box hDE.names
    clear hD hK hDE
    obtain⟨wo,rfl⟩:∃wo:World,wo=wr:=⟨_,rfl⟩
    go_wp2_with (at_range;refine wpList_range_list rfl _ rfl Tryz.underlying90 rfl HD.out.map ?_;intro w1 hr1 hc1 hs1)
    go_frame
    go_loopw [8] (fun _ w2=>∃left:List FileS,RangeIs w2 mb wo.heap.size .string (E.files.map encF) (left.map encF)∧DiskIn w2 p mb (.slice wa D.waits.length wcap) (E.settled (left.map (·.blk)))∧Keeps (foot p mb (.slice wa D.waits.length wcap) E) wo w2∧(∀f∈left,f∈E.files)∧(left.map (·.blk)).Nodup) (fun _ w2=>w2.rangeLeft mb wo.heap.size)
    case atStart=>exact⟨E.files,hr1,by rw[settled_all];exact HD.out.calm hc1,.of_calm hc1,fun _ h=>h,Hbn.out⟩
    case round =>
     obtain⟨left,hr,hD2,hK2,hin,hnd⟩:=hrel
     have Hr:=box hr
     have Hin:=box hin
     have HD2:=box hD2
     have HK2:=box hK2
     have Hnd:=box hnd
     clear hr hin hD2 hK2 hnd
     obtain⟨d0,d1,d2,d3,d4⟩:=HD2.out.cells
     have hpw:=heap_lt HD2.out.obj
     obtain⟨w3,hcl,hrow,hk3⟩:=clear_waits HD2.out
     have hp3:w3.heap[p]? = wr.heap[p]? := hk3.block p hpw HD2.out.p_ne_row
     have e3:∀k,w3.cell? ⟨p,k,none⟩=wr.cell? ⟨p,k,none⟩:=fun k=>by simp only[World.cell?];rw[hp3]
     have q0:=(e3 0).trans d0
     have q1:=(e3 1).trans d1
     have q3:=(e3 3).trans d3
     have hpo:w3.heap[p]? = some (.cells (diskCells (E.settled (left.map (·.blk))) mb (.slice wa D.waits.length wcap)) 93 (0,0)):=hp3.trans HD2.out.obj
     have u0:=free_of hpo 0
     have u1:=free_of hpo 1
     have u3:=free_of hpo 3
     have hp3':=heap_lt hpo
     have hlast:=box (HD2.out.rowTo hk3 (L:=[]) hrow (fun g hg=>.inl (by rw[←hg];exact own_any _ _ _ _ _)) (fun x hx=>by cases hx))
     have Hk3:=box hk3
     have Hcl:=box hcl
     clear e3 hpo hrow hk3 hp3 hcl
     go_wp2_with (at_next;refine wpList_next_list rfl _ rfl rfl Hr.out ?_ ?_)
     case refine_1 =>
      intro hnil
      have hnil:=box (show left=[] by simpa using hnil)
      have hcl:=Hcl.out
      try rw[hm2.out]at hcl
      go_wp2_with fail
      go_end0
      have h8:=(hlast.out.setObj (D':={ (E.settled (left.map (·.blk))) with waits:=[],left:=-1 }) 0 (.int .i64 (-1)) rfl rfl rfl).setObj (D':={ (E.settled (left.map (·.blk))) with waits:=[],left:=-1,down:=false }) 1 (.bool false) rfl rfl rfl
      have he:({ (E.settled (left.map (·.blk))) with waits:=[],left:=-1,down:=false }:DiskS)=D.crashed keep lack:=by
       rw[hnil.out,←HE.out,←hmB.out]
       rfl
      rw[he]at h8
      refine⟨rfl,_,⟨mb,.slice wa 0 wcap,h8,rfl⟩,?_,?_⟩
      ·have k1:Keeps (foot p mb (.slice wa D.waits.length wcap) D) w w0:=.of_calm HC.out
       have hfE:∀b,foot p mb (.slice wa D.waits.length wcap) E b→foot p mb (.slice wa D.waits.length wcap) D b:=fun b hb=>by rw[←HE.out,foot_imaged]at hb;exact hb
       have k2:=k1.trans' (HK.out.trans' (HK2.out.mono (fun b _ hb=>hfE b hb)))
       have k3:=k2.trans' (Hk3.out.mono (fun b _ hb=>.inr (.inr (.inl hb))))
       have k4:=((k3.setCell (p:=⟨p,3,none⟩) (.inl (.inl rfl)) (.slice wa 0 wcap)).setCell (p:=⟨p,0,none⟩) (.inl (.inl rfl)) (.int .i64 (-1))).setCell (p:=⟨p,1,none⟩) (.inl (.inl rfl)) (.bool false)
       first|exact k4|(rw[hm2.out]at k4;exact k4)
      ·rintro b (hb|hb|hb|hb)
       ·exact .inl (.inl hb)
       ·exact .inl (.inr (.inl hb))
       ·exact .inl (.inr (.inr (.inl (by rw[←hb];exact own_any _ _ _ _ _))))
       ·refine .inl (.inr (.inr (.inr ?_)))
        rw[←he]at hb
        have hb:b∈(E.settled (left.map (·.blk))).files.map (·.blk):=hb
        rw[settled_blk,←HE.out,imaged_foot]at hb
        exact hb
     case refine_2 =>
      intro l1 x1 x2 l2 w4 hl hr3 hen hk4 hs4 f hf hfe
      simp only[encF,Prod.mk.injEq]at hfe
      obtain⟨rfl,rfl⟩:=hfe
      have hmf:∃g∈E.files,encF g=encF f:=⟨f,hf,rfl⟩
      obtain⟨L1,L2,hL,hL1,hL2⟩:∃L1 L2,left=L1++f :: L2∧L1.map encF=l1∧L2.map encF=l2:=by
       obtain⟨L1,L',hL,h1,h2⟩:=List.map_eq_append_iff.1 hl
       obtain⟨g,L2,hL',h3,h4⟩:=List.map_eq_cons_iff.1 h2
       have hg:g=f:=by
        refine nodup_inj Hbn.out (Hin.out g (by rw[hL,hL'];simp)) hf ?_
        have:(encF g).2=ptrTo f.blk:=by rw[h3]
        simpa [encF] using this
       subst hg
       exact⟨L1,L2,by rw[hL,hL'],h1,h4⟩
      have hr3':RangeIs w4 mb wo.heap.size .string (E.files.map encF) ((L1++L2).map encF):=by rw[List.map_append,hL1,hL2];exact hr3
      have hD4:=HD2.out.keep hk4 (fun b hb e=>by rw[foot_settled]at hb;have:=HD.out.foot_lt b hb;omega)
      have hnd:=Hnd.out
      rw[hL,List.map_append,List.map_cons,List.nodup_append,List.nodup_cons]at hnd
      obtain⟨hfind,hset⟩:=hD4.settle Hbn.out Hnn.out hf ((L1++L2).map (·.blk)) (fun b=>by
       rw[hL]
       simp only[List.map_append,List.map_cons,List.mem_append,List.mem_cons]
       constructor
       ·rintro(h|h)
        ·exact⟨.inl h,fun e=>hnd.2.2 b h f.blk (List.mem_cons_self ..) e⟩
        ·exact⟨.inr (.inr h),fun e=>hnd.2.1.1 (e ▸ h)⟩
       ·rintro⟨h|h|h,hne⟩
        ·exact .inl h
        ·exact absurd h hne
        ·exact .inr h) (by rw[hL];simp)
      obtain⟨i0,i1,i2,i3⟩:=hD4.file hfind
      have hfl:=World.block_lt_of_cell? w4 _ i0
      have hfmb:=HD.out.mb_ne_file hf
      have hfr:f.blk≠wo.heap.size:=by have:=heap_lt (HD.out.files f hf);omega
      have hR5:=box (hr3'.same (w':=w4.setCell ⟨f.blk,1,none⟩ (.string f.image)) (heap_set_other hfmb.symm _ _) (heap_set_other hfr.symm _ _))
      have hlt5:=box (show (w4.setCell ⟨f.blk,1,none⟩ (.string f.image)).rangeLeft mb wo.heap.size<wr.rangeLeft mb wo.heap.size by rw[hR5.out.left_eq,Hr.out.left_eq,hL];simp)
      have hK5:=box (show Keeps (foot p mb (.slice wa D.waits.length wcap) E) wo (w4.setCell ⟨f.blk,1,none⟩ (.string f.image)) from
       Keeps.setCell (p:=⟨f.blk,1,none⟩) ⟨hk4.os.trans HK2.out.os,hk4.tape.trans HK2.out.tape,hk4.output.trans HK2.out.output,Nat.le_trans HK2.out.size hk4.size,fun b hb hn=>(hk4.block b (Nat.lt_of_lt_of_le hb HK2.out.size) (by omega)).trans (HK2.out.block b hb hn)⟩ (.inl (.inr (.inr (.inr (List.mem_map.2 ⟨f,hf,rfl⟩))))) _)
      have hset:=box hset
      have hin5:=box (show (∀g∈L1++L2,g∈E.files)∧((L1++L2).map (·.blk)).Nodup by
       refine⟨fun g hg=>Hin.out g (by rw[hL];rcases List.mem_append.1 hg with h|h<;>simp [h]),?_⟩
       rw[List.map_append,List.nodup_append]
       exact⟨hnd.1,hnd.2.1.2,fun a ha b hb=>hnd.2.2 a ha b (List.mem_cons_of_mem _ hb)⟩)
      clear hl hL hL1 hL2 hr3 hr3' hD4 hnd hfind hk4 hs4 hmf d0 d1 d2 d3 d4 q0 q1 q3 u0 u1 u3
      go_wp2_with fail
      go_roundw
      case rel=>exact⟨L1++L2,hR5.out,hset.out,hK5.out,hin5.out.1,hin5.out.2⟩
      case measure=>exact hlt5.out
end
end Go.Proofs.YtiahjipoofeliaaGreatDoor.dk
