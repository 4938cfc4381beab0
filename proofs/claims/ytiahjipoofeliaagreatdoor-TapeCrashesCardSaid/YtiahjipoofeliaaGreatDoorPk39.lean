/- Lemmas for this claim. -/
import Derived.Deep.CutBlock
import Derived.Test.YtiahjipoofeliaaGreatDoorPk38
set_option maxRecDepth 100000
namespace Go.Proofs.YtiahjipoofeliaaGreatDoor.tp
open Go.ChangeShapes Go.WideShapes Go.ChangeAt Go.RowKit Go.ChangeMaps Go.MapKept
open rc oc cr dk sg
theorem crash_lies {w:World} {b:Nat} {y:CrashS} {lv kv:Value} (h:w.heap[b]? = some (.cells (crashA y lv kv) 60 (0,0))):w.cell? ⟨b,0,none⟩=some lv∧w.cell? ⟨b,1,none⟩=some (.int .u8 y.sy)∧w.cell? ⟨b,2,none⟩=some (.int .i64 y.fu)∧w.cell? ⟨b,3,none⟩=some kv∧w.cell? ⟨b,4,none⟩=some (.int .i64 y.lack)∧b<w.heap.size :=
 ⟨cell_of h 0,cell_of h 1,cell_of h 2,cell_of h 3,cell_of h 4,heap_lt h⟩
theorem msg_lies {w:World} {b:Nat} {m:MsgS} {kv:Value} (h:w.heap[b]? = some (.cells (msgA m kv) 63 (0,0))):MsgCells w b m kv∧b<w.heap.size :=
 ⟨⟨cell_of h 0,cell_of h 1,cell_of h 2,cell_of h 3,cell_of h 4,cell_of h 5,cell_of h 6,cell_of h 7,cell_of h 8,cell_of h 9⟩,heap_lt h⟩
set_option maxHeartbeats 16000000 in
theorem crashes.walk (W:World) (ht:Tab W) (y:CrashS×Value×Value) (r:CrashIn W y.1 y.2.1 y.2.2) (mo:MsgS×Value) (rm:MsgIn W mo) :
  Calls Tryz.prog 4 #[.agg (crashA y.1 y.2.1 y.2.2),.agg (msgA mo.1 mo.2)] W fun e W'=>e=.returned (.bool true)∧Calm W W':=by
 obtain⟨⟨l,sy,fu,keep,lack⟩,lv0,kv0⟩:=y
 obtain⟨m,mv⟩:=mo
 obtain⟨rl,rk,⟨sy0,sy1⟩,fu0,fu1⟩:=r
 obtain⟨hr,z1,z2,z3,zk,zr⟩:=rm
 simp only at rl rk sy0 sy1 fu0 fu1 hr z1 z2 z3 zk zr
 obtain⟨hst,hkz⟩:=RowsAt.strs hr
 obtain⟨ka,kcap,rfl,_⟩:=hst.uni
 have Sa:=box hst
 have Za:=box hkz
 have Wa:=box (show m.body.size≤maxLen∧m.topic.size≤maxLen∧m.tag.size≤maxLen∧m.keys.length≤maxLen from ⟨z3,z1,z2,hkz.2⟩)
 have Mz:=box (show MsgZ m from ⟨z1,z2,z3,hkz.2,hkz.1,zk,zr⟩)
 have hkl:keep.length≤maxLen:=by obtain⟨_,_,_,q2,q3,_⟩:=rk;omega
 obtain⟨ba,bcap,rfl,_,_⟩:=RowsAt_bools rk
 have Rv:=box rl
 have Rk:=box rk
 obtain⟨la,lcap,rfl,hll,hle⟩:=RowsAt.msgs rl
 have Hle:=box hle
 have Hfu:=box (show -9223372036854775808≤fu∧fu≤9223372036854775807 from ⟨fu0,fu1⟩)
 unfold maxLen at hll hkl
 obtain⟨W1a,hWa⟩:∃Wa,W.alloc (.cells (crashA ⟨l,sy,fu,keep,lack⟩ (.slice la l.length lcap) (.slice ba keep.length bcap)) 60)=Wa:=⟨_,rfl⟩
 obtain⟨W1,hW1⟩:∃W1,W1a.alloc (.cells (msgA m (.slice ka m.keys.length kcap)) 63)=W1:=⟨_,rfl⟩
 have Ca:=box (show Calm W W1a by rw[←hWa];exact(Calm.refl W).alloc _)
 have Cb:=box (show Calm W1a W1 by rw[←hW1];exact(Calm.refl W1a).alloc _)
 have K2:=box (show W1.heap[W.heap.size]? = some (.cells (crashA ⟨l,sy,fu,keep,lack⟩ (.slice la l.length lcap) (.slice ba keep.length bcap)) 60 (0,0)) from heap_calm Cb.out (by rw[←hWa];exact heap_new W _))
 have K3:=box (show W1.heap[W1a.heap.size]? = some (.cells (msgA m (.slice ka m.keys.length kcap)) 63 (0,0)) by rw[←hW1];exact heap_new W1a _)
 have C1:=box (Ca.out.trans Cb.out)
 have HT:=box (tab_calm ht C1.out)
 obtain⟨b2,hb2⟩:∃b2,W.heap.size=b2:=⟨_,rfl⟩
 obtain⟨b3,hb3⟩:∃b3,W1a.heap.size=b3:=⟨_,rfl⟩
 rw[hb2]at K2
 rw[hb3]at K3
 have haw:=box (awake_any W1 HT.out)
 clear hr hst hkz z1 z2 z3 zk zr rl rk hle ht Ca Cb fu0 fu1
 go_enter Tryz.func4,Tryz.ntmps4
 go_wp2_with fail
 clear hWa hW1 hb2 hb3
 refine haw.out.mono ?_
 rintro e w1 ⟨rfl,hc1⟩
 have D1:=box hc1
 clear hc1 haw
 have hcr:=box (fun W' (hc:Calm W1 W')=>(heap_calm hc K2.out))
 have hcm:=box (fun W' (hc:Calm W1 W')=>(heap_calm hc K3.out))
 obtain⟨a0,a1,a2,a3,a4,alt⟩:=crash_lies (hcr.out _ D1.out)
 by_cases h1:60<l.length
 ·have t1:decide ((60:Int)<(l.length:Int))=true:=decide_eq_true (by omega)
  go_wp2_with fail
  go_ret
  exact⟨rfl,C1.out.trans D1.out⟩
 have t1:decide ((60:Int)<(l.length:Int))=false:=decide_eq_false (by omega)
 by_cases h2:200<keep.length
 ·have t2:decide ((200:Int)<(keep.length:Int))=true:=decide_eq_true (by omega)
  go_wp2_with fail
  go_ret
  exact⟨rfl,C1.out.trans D1.out⟩
 have t2:decide ((200:Int)<(keep.length:Int))=false:=decide_eq_false (by omega)
 have hl60:l.length≤60:=by omega
 have hk200:keep.length≤200:=by omega
 clear h1 h2
 have hgr:=box (GreatL_any _ l w1 (Rv.out.calm MsgR.lasts (C1.out.trans D1.out)))
 go_wp2_with fail
 refine hgr.out.mono ?_
 rintro e w2 ⟨g0,rfl,hc2,hsm⟩
 have D2:=box (D1.out.trans hc2)
 cases g0
 case true =>
  clear hc2 hgr hsm
  go_wp2_with fail
  go_ret
  exact⟨rfl,C1.out.trans D2.out⟩
 have Hsm:=box (hsm rfl)
 clear hc2 hgr hsm a0 a1 a2 a3 a4 alt D1
 obtain⟨⟨x0,x1,x2,x3,x4,x5,x6,x7,x8,x9⟩,xlt⟩:=msg_lies (hcm.out _ D2.out)
 have G1:=box (heap_new w2 (.cells (msgA m (.slice ka m.keys.length kcap)) 63))
 have G2:=box ((Calm.refl w2).alloc (.cells (msgA m (.slice ka m.keys.length kcap)) 63))
 have hgm:=box (Great_any w2.heap.size m (.slice ka m.keys.length kcap) _ G1.out (Sa.out.calm (C1.out.trans (D2.out.trans G2.out))) Za.out.1 Wa.out)
 go_wp2_with fail
 refine hgm.out.mono ?_
 rintro e w3 ⟨g1,rfl,hc3,hsm3⟩
 have D3:=box (D2.out.trans (G2.out.trans hc3))
 clear G1 G2 hgm hc3 x0 x1 x2 x3 x4 x5 x6 x7 x8 x9 xlt t1 t2
 cases g1
 case true =>
  clear hsm3
  go_wp2_with fail
  go_ret
  exact⟨rfl,C1.out.trans D3.out⟩
 have Sm:=box (hsm3 rfl)
 clear hsm3 D2
 go_wp2_with fail
 refine(New_ok w3 1048576).mono ?_
 rintro e w4 ⟨p,F4,rfl,hd4,hc4,hF4⟩
 have hopen:=box (open_new (W:=W1) 1048576 (by decide) hd4 HT.out (D3.out.trans hc4) (fun b hb=>Nat.le_trans D3.out.size (hF4 b hb)))
 clear hd4 hc4 hF4
 go_wp2_with fail
 refine hopen.out.mono ?_
 rintro e w5 ⟨t,S,G,rfl,hL,_,hps,hst⟩
 have P5:=box (Cx.new hL hps hst)
 have Hpre:=box (show Alive S.D∧S.R.synced=0 from ⟨hL.alive,by have:=hL.synced;have:=hL.fin;omega⟩)
 clear hopen hL hps hst
 obtain⟨g,hg⟩:∃g,w5.heap.size=g:=⟨_,rfl⟩
 rw[hg]at P5
 obtain⟨w6,hw6⟩:∃w6,w5.alloc (.cells #[.string ⟨#[]⟩,.int .i64 0,.slice none 0 0,.slice none 0 0] 71)=w6:=⟨_,rfl⟩
 rw[hw6]at P5
 obtain⟨s,hs⟩:∃s:Nat,s=sy.toNat%(l.length+1):=⟨_,rfl⟩
 have Hs:=box hs
 have Hsl:=box (show s≤l.length by rw[hs];have:=Nat.mod_lt sy.toNat (show 0<l.length+1 by omega);omega)
 have Hss:=box (show (s:Int)=sy%((l.length:Int)+1) by rw[hs,Int.natCast_emod,Int.toNat_of_nonneg sy0];rfl)
 clear hs
 obtain⟨a0,a1,a2,a3,a4,alt⟩:=crash_lies (hcr.out _ P5.out.owns)
 go_upto_block 0 with fail
 (try rw[hg])
 (try rw[hw6])
 clear hg hw6 a0 a1 a2 a3 a4 alt
 go_cut [9,10] from 11 to 113 (fun sv mv wx=>∃(A:List Rq) (il lv:Value) (B:ByteArray) (sf M:Nat),sv=.int .i64 (M:Int)∧mv=.int .i64 (A.length:Int)∧Box (Cf W1 p g A il lv B sf M wx))
 case first =>
  go_wp2_with fail
  go_loopw [9,10,66] (fun sv mv iv wr=>∃(k:Nat) (S:TS) (G:Nat→Prop) (B:ByteArray) (A:List Rq) (il lv:Value) (sf M:Nat),k≤l.length∧sv=.int .i64 (M:Int)∧mv=.int .i64 (A.length:Int)∧iv=.int .i64 (k:Int)∧Box (k≤s→Alive S.D∧S.R.synced=0)∧Box (Cx W1 t p g k S G B A il lv sf M wr)) (fun _ _ iv _=>l.length-(intOf iv).toNat)
  case atStart=>exact⟨0,S,G,_,[],_,_,0,0,Nat.zero_le _,rfl,rfl,rfl,box (fun _=>Hpre.out),P5⟩
  case round =>
   clear P5 Hpre
   obtain⟨k,S,G,B,A,il,lv,sf,M,hk,rfl,rfl,rfl,HQ,HP⟩:=hrel
   by_cases hkl:k<l.length
   ·obtain⟨eb,eoff,kv,rfl,heb,hec,hks,hmz⟩:=Hle.out k hkl
    have hsm:=Hsm.out l[k] (List.getElem_mem hkl)
    obtain⟨x,hx⟩:∃x,l[k]=x:=⟨_,rfl⟩
    rw[hx]at hec hks hmz hsm
    have hown:=C1.out.trans HP.out.owns
    have hlt:=Nat.lt_of_lt_of_le heb hown.size
    have c0:=(hown.cell (p:=⟨eb,eoff+k * 10,none⟩) heb).trans (hec 0 (by decide))
    have c1:=(hown.cell (p:=⟨eb,eoff+k * 10+1,none⟩) heb).trans (hec 1 (by decide))
    have c2:=(hown.cell (p:=⟨eb,eoff+k * 10+2,none⟩) heb).trans (hec 2 (by decide))
    have c3:=(hown.cell (p:=⟨eb,eoff+k * 10+3,none⟩) heb).trans (hec 3 (by decide))
    have c4:=(hown.cell (p:=⟨eb,eoff+k * 10+4,none⟩) heb).trans (hec 4 (by decide))
    have c5:=(hown.cell (p:=⟨eb,eoff+k * 10+5,none⟩) heb).trans (hec 5 (by decide))
    have c6:=(hown.cell (p:=⟨eb,eoff+k * 10+6,none⟩) heb).trans (hec 6 (by decide))
    have c7:=(hown.cell (p:=⟨eb,eoff+k * 10+7,none⟩) heb).trans (hec 7 (by decide))
    have c8:=(hown.cell (p:=⟨eb,eoff+k * 10+8,none⟩) heb).trans (hec 8 (by decide))
    have c9:=(hown.cell (p:=⟨eb,eoff+k * 10+9,none⟩) heb).trans (hec 9 (by decide))
    simp only[List.getElem?_toArray,List.getElem?_cons_zero,List.getElem?_cons_succ]at c0 c1 c2 c3 c4 c5 c6 c7 c8 c9
    have Hkw:=box (hks.calm C1.out)
    have hfair:=fair_of (m:=x) (hks.calm hown) hmz hsm
    obtain⟨ka',kcap',rfl,_⟩:=(hks.calm hown).uni
    obtain⟨wa,hwa⟩:∃wa,wr.alloc (.cells (msgA x (.slice ka' x.keys.length kcap')) 63)=wa:=⟨_,rfl⟩
    have hja:wa.heap[wr.heap.size]? = some (.cells (msgA x (.slice ka' x.keys.length kcap')) 63 (0,0)):=by rw[←hwa];exact heap_new wr _
    have Ca:=box (show Calm wr wa by rw[←hwa];exact(Calm.refl wr).alloc _)
    have Hn:=box (HP.out.not_new (b:=wr.heap.size) (Nat.le_refl _))
    obtain⟨b0,hb0⟩:∃b0,wr.heap.size=b0:=⟨_,rfl⟩
    rw[hb0]at hja Hn
    have Ja:=box hja
    have Pa:=box (HP.out.calm Ca.out)
    have Fz:=box (fun W' (hc:Calm W1 W')=>fair_of (m:=x) (Hkw.out.calm hc) hmz hsm)
    have Zm:=box hmz
    clear hks hmz hsm hec hfair hja hown hx HP
    go_upto_region 14 with fail
    (try rw[hwa])
    (try rw[hb0])
    clear hwa hb0 c0 c1 c2 c3 c4 c5 c6 c7 c8 c9 hlt heb Ca
    obtain⟨a0,a1,a2,a3,a4,alt⟩:=crash_lies (hcr.out _ Pa.out.owns)
    obtain⟨⟨x0,x1,x2,x3,x4,x5,x6,x7,x8,x9⟩,xlt⟩:=msg_lies Ja.out
    go_upto_if 80 with fail
    go_cut [9,66] from 66 to 113 (fun sv iv wx=>iv=.int .i64 (k:Int)∧∃(S':TS) (G':Nat→Prop) (sf' M':Nat),sv=.int .i64 (M':Int)∧Box (k+1≤s→Alive S'.D∧S'.R.synced=0)∧Box (Cx W1 t p g k S' G' B A il lv sf' M' wx)∧Box (wx.heap[b0]? = some (.cells (msgA x (.slice ka' x.keys.length kcap')) 63 (0,0)))∧Box (¬(G' b0∨b0=g∨il.ownBlock=some b0∨lv.ownBlock=some b0)))
    case first =>
     as_aux_lemma =>
     by_cases hks:k=s
     ·have t80:((k:Int)==sy%((l.length:Int)+1))=true:=by rw[←Hss.out,hks];exact beq_self_eq_true _
      have hpre:=HQ.out (by omega)
      have Hks:=box hks
      clear hks
      have hsy:=box (Pa.out.sync (by omega) hpre.1 hpre.2)
      clear hpre
      go_wp2_with fail
      refine hsy.out.mono ?_
      rintro e w7 ⟨rfl,S7,G7,hP7,hS7⟩
      have P7:=box hP7
      have J7:=box ((hS7.keeps.block b0 (heap_lt Ja.out) (fun e=>Hn.out (.inl e))).trans Ja.out)
      have N7:=box (step_not hS7 (heap_lt Ja.out) (fun e=>Hn.out (.inl e)))
      have hfz:=box (hP7.fuse (by omega) fu Hfu.out.2)
      clear hP7 hS7 hsy a0 a1 a2 a3 a4 alt x0 x1 x2 x3 x4 x5 x6 x7 x8 x9 xlt
      obtain⟨a0,a1,a2,a3,a4,alt⟩:=crash_lies (hcr.out _ P7.out.owns)
      go_wp2_with fail
      refine hfz.out.mono ?_
      rintro e w8 ⟨rfl,S8,G8,hP8,hS8⟩
      have P8:=box hP8
      have J8:=box ((hS8.keeps.block b0 (heap_lt J7.out) N7.out).trans J7.out)
      have N8:=box (show ¬(G8 b0∨b0=g∨il.ownBlock=some b0∨lv.ownBlock=some b0) from fun e=>e.elim (fun e=>step_not hS8 (heap_lt J7.out) N7.out e) (fun e=>Hn.out (.inr e)))
      clear hP8 hS8 hfz a0 a1 a2 a3 a4 alt
      go_wp2_with fail
      go_meet
      exact⟨rfl,S8,G8,_,_,rfl,box (fun h=>absurd h (by have:=Hks.out;omega)),P8,J8,N8⟩
     ·have t80:((k:Int)==sy%((l.length:Int)+1))=false:=by rw[←Hss.out];exact beq_eq_false_iff_ne.2 (by omega)
      go_wp2_with fail
      go_meet
      exact⟨rfl,S,G,sf,M,rfl,box (fun h=>HQ.out (by omega)),Pa,Ja,Hn⟩
    case rest =>
     as_aux_lemma =>
     obtain⟨rfl,S',G',sf',M',rfl,HQ',HP',HJ',HN'⟩:=hcut
     clear HQ Pa Ja Hn a0 a1 a2 a3 a4 alt x0 x1 x2 x3 x4 x5 x6 x7 x8 x9 xlt
     obtain⟨⟨x0,x1,x2,x3,x4,x5,x6,x7,x8,x9⟩,xlt⟩:=msg_lies HJ'.out
     have hfz:=Fz.out _ HP'.out.owns
     have hBz:B.size≤1000000:=by have:=HP'.out.bs;have:=HP'.out.fin;omega
     have hco:=box (rCost_any g B _ _ _ x (.slice ka' x.keys.length kcap') _ HP'.out.rt.obj hfz.keys Zm.out.2.2.2.2.1 ⟨Zm.out.1,Zm.out.2.1,Zm.out.2.2.1⟩ hBz HP'.out.end_ok)
     have Hend:=box HP'.out.end_ok
     have hAk:=HP'.out.few
     obtain⟨ia,inn,ic,rfl⟩:=row_slice HP'.out.rt.ids
     obtain⟨lla,lnn,lc,rfl⟩:=row_slice HP'.out.rt.row
     by_cases hok:okM x
     ·have Hok:=box hok
      have hc0:0<costP B.size x:=cost_pos hok
      obtain⟨cst,hcst⟩:∃cst,costP B.size x=cst:=⟨_,rfl⟩
      rw[hcst]at hco hc0
      have t92:((cst:Int)==0)=false:=beq_eq_false_iff_ne.2 (by omega)
      have t92b:(cst==0)=false:=beq_eq_false_iff_ne.2 (by omega)
      clear hok hcst hfz hc0
      go_wp2_with fail
      refine hco.out.mono ?_
      rintro e w9 ⟨rfl,hc9⟩
      have P9:=box (HP'.out.calm hc9)
      have J9:=box (heap_calm hc9 HJ'.out)
      clear hc9 hco x0 x1 x2 x3 x4 x5 x6 x7 x8 x9 xlt
      obtain⟨⟨x0,x1,x2,x3,x4,x5,x6,x7,x8,x9⟩,xlt⟩:=msg_lies J9.out
      have hap:=box (P9.out.append (by omega) x _ (Fz.out _ P9.out.owns) Hok.out Zm.out)
      go_wp2_with fail
      refine hap.out.mono ?_
      rintro e wA ⟨hKA,hCA,hRA,⟨rfl,hnx⟩|⟨rfl,_,hnx⟩⟩
      ·have JA:=box ((hKA.block b0 (heap_lt J9.out) (fun e=>HN'.out (.inl e))).trans J9.out)
       have hra:=box (rAppend_any x (.slice ka' x.keys.length kcap') wA hRA hCA Hkw.out (Fz.out _ P9.out.owns).len Zm.out.2.2.2.2.1 ⟨Zm.out.1,Zm.out.2.1,Zm.out.2.2.1⟩ Hok.out hBz Hend.out (by omega))
       have Hnx:=box hnx
       obtain⟨idn,hidn⟩:∃idn,idP B.size x=idn:=⟨_,rfl⟩
       rw[hidn]at Hnx ⊢
       clear hidn hKA hCA hRA hnx hap x0 x1 x2 x3 x4 x5 x6 x7 x8 x9 xlt
       obtain⟨⟨x0,x1,x2,x3,x4,x5,x6,x7,x8,x9⟩,xlt⟩:=msg_lies JA.out
       go_wp2_with fail
       refine hra.out.mono ?_
       intro e wB hB
       obtain⟨⟨z,rfl⟩,S8,G8,B8,il8,lv8,⟨hs8,ha8⟩,hP8⟩:=Hnx.out e wB hB
       have P8:=box hP8
       have Q8:=box (show k+1≤s→Alive S8.D∧S8.R.synced=0 from fun h=>⟨ha8 (HQ'.out h).1,hs8.trans (HQ'.out h).2⟩)
       clear hB hP8 hs8 ha8 Hnx hra x0 x1 x2 x3 x4 x5 x6 x7 x8 x9 xlt
       go_wp2_with fail
       go_roundw
       case rel=>exact⟨k+1,S8,G8,B8,_,il8,lv8,sf',M',by omega,rfl,by rw[List.length_append,List.length_singleton];go_num,by go_num,Q8,P8⟩
       case measure=>simp [intOf];omega
      ·have JA:=box ((hKA.block b0 (heap_lt J9.out) (fun e=>HN'.out (.inl e))).trans J9.out)
       have hra:=box (rAppend_any x (.slice ka' x.keys.length kcap') wA hRA hCA Hkw.out (Fz.out _ P9.out.owns).len Zm.out.2.2.2.2.1 ⟨Zm.out.1,Zm.out.2.1,Zm.out.2.2.1⟩ Hok.out hBz Hend.out (by omega))
       have Hnx:=box hnx
       clear hKA hCA hRA hnx hap x0 x1 x2 x3 x4 x5 x6 x7 x8 x9 xlt
       obtain⟨⟨x0,x1,x2,x3,x4,x5,x6,x7,x8,x9⟩,xlt⟩:=msg_lies JA.out
       go_wp2_with fail
       refine hra.out.mono ?_
       intro e wB hB
       obtain⟨⟨z,rfl⟩,B8,il8,lv8,hP8⟩:=Hnx.out e wB hB
       have P8:=box hP8
       clear hB hP8 Hnx hra x0 x1 x2 x3 x4 x5 x6 x7 x8 x9 xlt
       go_wp2_with fail
       go_meet
       exact⟨_,il8,lv8,B8,sf',M',rfl,by rw[List.length_append,List.length_singleton];go_num,P8⟩
     ·have hc0:costP B.size x=0:=by unfold costP;rw[if_neg hok]
      rw[hc0]at hco
      have P9':=box (fun w' (hc:Calm _ w')=>(HP'.out.calm hc).more)
      clear hok hc0 hfz
      go_wp2_with fail
      refine hco.out.mono ?_
      rintro e w9 ⟨rfl,hc9⟩
      have P9:=box (P9'.out _ hc9)
      clear hc9 hco P9' x0 x1 x2 x3 x4 x5 x6 x7 x8 x9 xlt
      go_wp2_with fail
      go_roundw
      case rel=>exact⟨k+1,S',G',B,A,_,_,sf',M',by omega,rfl,rfl,by go_num,HQ',P9⟩
      case measure=>simp [intOf];omega
   ·obtain rfl:k=l.length:=by omega
    have HF:=box (HP.out.toCf (by omega))
    clear HP HQ
    go_wp2_with fail
    go_meet
    exact⟨A,il,lv,B,sf,M,rfl,rfl,HF⟩
 case rest =>
  as_aux_lemma =>
  obtain⟨A,il,lv,B,sf,M,rfl,rfl,HF⟩:=hcut
  clear P5 Hpre Hss Hs Hsl Hle Rv Hfu Hsm
  have hcrash:=box (HF.out.crash ba bcap keep lack (Rk.out.calm BoolR.lasts C1.out) (by omega))
  obtain⟨a0,a1,a2,a3,a4,alt⟩:=crash_lies (hcr.out _ HF.out.calm)
  go_wp2_with fail
  refine hcrash.out.mono ?_
  rintro e w7 ⟨rfl,hG7⟩
  have hop:=box hG7.open_
  clear hG7 hcrash a0 a1 a2 a3 a4 alt HF
  go_wp2_with fail
  refine hop.out.mono ?_
  rintro e w8 ⟨t8,S8,G8,rfl,hC8⟩
  have H8:=box hC8
  obtain⟨n,hnA,hMn,hrec,hfin,hokA,hlaid⟩:=hC8.first
  obtain⟨A0,hA0⟩:∃A0,A.take n=A0:=⟨_,rfl⟩
  have hA0n:A0.length=n:=by rw[←hA0,List.length_take];omega
  have hcuts:=box (fun w' (hc:Calm w8 w')=>(hC8.calm_ hc).cuts hnA hA0)
  have hok0:∀x∈A0,okM x.2.1:=fun x hx=>hokA x (List.mem_of_mem_take (by rw[hA0];exact hx))
  rw[hA0]at hrec hfin
  have hen0:=endL_le A0 hok0
  have Hen:=box (show A0.length≤61∧endL A0≤90000 from by have:=hC8.few;omega)
  have Hle0:=box (laid_end hok0)
  have hids:=box (hC8.ids0 hrec)
  have hend:=box (fun w' (hc:Calm w8 w')=>(hC8.calm_ hc).end_)
  have Hsm8:=box hC8.small
  have Hrec:=box (show Go.Proofs.YtiahjipoofeliaaGreatDoor.tp.recs 0 S8.ps=A0.map numR from by rw[←hrec];show _=Go.Proofs.YtiahjipoofeliaaGreatDoor.tp.recs S8.R.start S8.ps;rw[hC8.start])
  have Hflat:=box (show (flat S8.ps).length=S8.R.fin from by have:=hC8.tp.holds.size;have:=hC8.start;omega)
  have hagain:=box (fun w' B' il' lv' (hT:Tp W1 t8 p 0 S8 G8 w') (hr:RT W1 w' g B' 0 A0 il' lv') g1 g2 g3=>open_again (A':=A0) hT hC8.able hC8.start hC8.waits hC8.small HT.out hr g1 g2 g3)
  have s1:decide ((A0.length:Int)<(M:Int))=false:=decide_eq_false (by omega)
  have s1b:decide (A0.length<M)=false:=decide_eq_false (by omega)
  have s2:decide ((A.length:Int)<(A0.length:Int))=false:=decide_eq_false (by omega)
  have s2b:decide (A.length<A0.length)=false:=decide_eq_false (by omega)
  obtain⟨fi,hfi⟩:∃fi,S8.R.fin=fi:=⟨_,rfl⟩
  rw[hfi]at hend hfin Hsm8 Hflat
  have Hfin:=box hfin
  clear hC8 hop hA0 hA0n hok0 hrec hen0 hokA hlaid hnA hMn hfi hfin n
  go_wp2_with fail
  refine hids.out.mono ?_
  rintro e w9 ⟨ia,ic,rfl,_,hc9⟩
  have K9:=box hc9
  clear hc9 hids
  go_wp2_with fail
  refine(hend.out _ K9.out).mono ?_
  rintro e wA ⟨rfl,rfl⟩
  have hcu:=box (hcuts.out _ K9.out)
  clear hcuts hend s1 s1b s2 s2b
  go_wp2_with fail
  refine hcu.out.mono ?_
  rintro e wB ⟨rfl,B',il',lv',hTB,hCB,hRB,hBs,g1,g2,g3⟩
  have hag:=box (hagain.out _ _ _ _ hTB hRB g1 g2 g3)
  have HRB:=box hRB
  have HBs:=box hBs
  obtain⟨z0,z1,z2,z3,zlt⟩:=hRB.cells
  clear hTB hCB hRB g1 g2 g3 hcu hagain K9 H8
  go_upto_region 38 with fail
  go_cut [161] from 141 to 161 (fun v wx=>v=.bool false∧wx=wB)
  case first =>
   as_aux_lemma =>
   rcases Hfin.out with h|⟨h,h2⟩
   ·have u1:decide ((fi:Int)<(B'.size:Int))=false:=decide_eq_false (by omega)
    have u1b:decide (fi<B'.size)=false:=decide_eq_false (by omega)
    have u2:decide ((B'.size:Int)<(fi:Int))=false:=decide_eq_false (by omega)
    have u2b:decide (B'.size<fi)=false:=decide_eq_false (by omega)
    clear h hBs
    go_wp2_with fail
    go_meet
    exact⟨rfl,rfl⟩
   ·have u1:decide ((fi:Int)<(B'.size:Int))=false:=decide_eq_false (by omega)
    have u1b:decide (fi<B'.size)=false:=decide_eq_false (by omega)
    have u2:decide ((B'.size:Int)<(fi:Int))=true:=decide_eq_true (by omega)
    have u2b:decide (B'.size<fi)=true:=decide_eq_true (by omega)
    have u3:((fi:Int)%1024 != 0)=false:=by rw[bne_eq_false_iff_eq];omega
    have u3c:(fi%1024 != 0)=false:=by rw[bne_eq_false_iff_eq];exact h2
    clear h h2 hBs
    go_wp2_with fail
    go_meet
    exact⟨rfl,rfl⟩
  case rest =>
   as_aux_lemma =>
   obtain⟨rfl,rfl⟩:=hcut
   clear hBs z0 z1 z2 z3 zlt
   go_wp2_with fail
   refine hag.out.mono ?_
   rintro e wC ⟨y,rfl,hY⟩
   have Y0:=box hY
   have hsmf:(flat S8.ps).length≤100000:=by rw[Hflat.out];exact Hsm8.out
   have Hsmf:=box hsmf
   have hye:=box (fun w' (hc:Calm wC w')=>(hY.calm hc).yend Hflat.out)
   have hxi:=box (fun w' (hc:Calm wC w')=>(hY.calm hc).xids hsmf Hrec.out)
   have hyi:=box (fun w' (hc:Calm wC w')=>(hY.calm hc).yids hsmf Hrec.out)
   have hwt:=box (fun w' (hc:Calm wC w')=>(hY.calm hc).waits)
   clear hY hag hsmf
   go_wp2_with fail
   refine(hye.out _ (Calm.refl _)).mono ?_
   rintro e wD ⟨rfl,rfl⟩
   go_wp2_with fail
   refine(hxi.out _ (Calm.refl _)).mono ?_
   rintro e wE ⟨xa,xc,rfl,hi1,hcE⟩
   have KE:=box hcE
   have I1:=box hi1
   clear hcE hi1 hxi hye
   go_wp2_with fail
   refine(hyi.out _ KE.out).mono ?_
   rintro e wF ⟨ya,yc,rfl,hi2,hcF⟩
   have KF:=box (KE.out.trans hcF)
   have hin:=box (ints_eq (I1.out.calm hcF) hi2)
   clear hcF hi2
   go_wp2_with fail
   refine hin.out.mono ?_
   rintro e wG ⟨rfl,hcG⟩
   have KG:=box (KF.out.trans hcG)
   clear hcG hin
   go_wp2_with fail
   refine(hwt.out _ KG.out).mono ?_
   rintro e wH ⟨rfl,rfl⟩
   clear hwt KE I1 KF
   go_wp2_with fail
   refine(hyi.out _ KG.out).mono ?_
   rintro e wI ⟨ja,jc,rfl,hi3,hcI⟩
   have KI:=box (KG.out.trans hcI)
   have I3:=box hi3
   have YI:=box (Y0.out.calm KI.out)
   clear hcI hi3 hyi KG Y0
   go_wp2_with fail
   go_loopw [191] (fun iv wr=>∃i:Nat,i≤A0.length∧iv=.int .i64 (i:Int)∧Box (Calm wI wr)) (fun iv _=>A0.length-(intOf iv).toNat)
   case atStart=>exact⟨0,Nat.zero_le _,rfl,box (Calm.refl _)⟩
   case round =>
    obtain⟨i,hi,rfl,HC⟩:=hrel
    have YR:=box (YI.out.calm HC.out)
    by_cases hil:i<A0.length
    ·as_aux_lemma =>
     have hi61:i<1000:=by have:=Hen.out.1;omega
     obtain⟨qa,qc,hq,_,hcell⟩:=I3.out.calm HC.out
     simp only[List.length_map,Value.slice.injEq]at hq
     obtain⟨rfl,_,rfl⟩:=hq
     obtain⟨qb,qo,rfl,hqb,d0⟩:=hcell i (by rw[List.length_map];exact hil)
     rw[List.getElem_map]at d0
     have hread:=box (YR.out.reads Hrec.out hil)
     have hrec:=box (YR.out.rt.rec_ hil)
     have hid:=box (YR.out.rt.id_at hil)
     have hsame:=box (fun kv W' (hc:Calm W1 W')=>YR.out.same_ (w':=W') (kv:=kv) (List.getElem_mem hil) hc)
     have hkeys:=box (YR.out.rt.msgs _ (List.getElem_mem hil)).1
     obtain⟨⟨xn,xm,xkv⟩,hx⟩:∃x,A0[i]=x:=⟨_,rfl⟩
     rw[hx]at d0 hread hrec hid hsame hkeys
     simp only at hread hrec hid hsame hkeys d0
     obtain⟨xa',xcap,rfl,_⟩:=hkeys.out.uni
     clear hcell hx
     go_wp2_with fail
     refine hread.out.mono ?_
     rintro e wJ ⟨hcJ,kv',rfl,hkv'⟩
     have Hkv:=box hkv'
     obtain⟨ya',ycap,rfl,_⟩:=hkv'.uni
     obtain⟨wa,hwa⟩:∃wa,wJ.alloc (.cells (msgA xm (.slice ya' xm.keys.length ycap)) 63)=wa:=⟨_,rfl⟩
     have Jb:=box (show wa.heap[wJ.heap.size]? = some (.cells (msgA xm (.slice ya' xm.keys.length ycap)) 63 (0,0)) by rw[←hwa];exact heap_new wJ _)
     have Ca:=box (show Calm wr wa by rw[←hwa];exact hcJ.trans ((Calm.refl wJ).alloc _))
     have Cb:=box (show Calm wJ wa by rw[←hwa];exact(Calm.refl wJ).alloc _)
     clear hkv' hcJ hread d0 hqb
     go_upto_region 47 with fail
     (try rw[hwa])
     clear hwa
     obtain⟨mb,hmb⟩:∃mb,wJ.heap.size=mb:=⟨_,rfl⟩
     rw[hmb]at Jb ⊢
     clear hmb
     obtain⟨rb,rcap,hrl,_,hrb,hrcell⟩:=hrec.out
     obtain⟨ib,io,icap,hil2,hib,hicell⟩:=hid.out
     subst hrl hil2
     have hcs:=box (fun W' (hc:Calm wa W')=>(show RecC W' rb i xm (.slice xa' xm.keys.length xcap) from RecC.of hrb hrcell (Ca.out.trans hc)))
     have hct:=box (fun W' (hc:Calm wa W')=>(show RTc W' g B' 0 (.slice (some ⟨ib,io,none⟩) A0.length icap) (.slice (some ⟨rb,0,none⟩) A0.length rcap) from (YR.out.calm (Ca.out.trans hc)).rt.cells))
     have hcg:=box (fun W' (hc:Calm wa W')=>(msg_lies (heap_calm hc Jb.out)).1)
     have hci:=box (fun W' (hc:Calm wa W')=>((Ca.out.trans hc).cell (p:=⟨ib,io+i,none⟩) hib).trans hicell)
     have hss:=box (fun W' (hc:Calm wa W')=>hsame.out (.slice ya' xm.keys.length ycap) W' (YR.out.owns.trans (Ca.out.trans hc)) (Hkv.out.calm (Cb.out.trans hc)))
     obtain⟨c0,c1,c2,c3,clt⟩:=hct.out wa (Calm.refl _)
     obtain⟨r0,r1,r2,r3,r4,r5,r6,r7,r8,r9,rlt⟩:=hcs.out wa (Calm.refl _)
     obtain⟨m0,m1,m2,m3,m4,m5,m6,m7,m8,m9⟩:=hcg.out wa (Calm.refl _)
     have o1:=hci.out wa (Calm.refl _)
     have mlt:=heap_lt Jb.out
     have ilt:=Nat.lt_of_lt_of_le hib Ca.out.size
     clear hrcell hrec hid hicell hrb hib hsame Hkv
     go_region_held3 (fun w'=>RTc w' g B' 0 (.slice (some ⟨ib,io,none⟩) A0.length icap) (.slice (some ⟨rb,0,none⟩) A0.length rcap)∧RecC w' rb i xm (.slice xa' xm.keys.length xcap)∧MsgCells w' mb xm (.slice ya' xm.keys.length ycap)∧w'.cell? ⟨ib,io+i,none⟩=some (.int .i64 (xn:Int))) (exact⟨hct.out _ (by exact cm),hcs.out _ (by exact cm),hcg.out _ (by exact cm),hci.out _ (by exact cm)⟩) (first
      | (go_at_call 35;refine(hss.out _ (by exact cm)).mono ?_;rintro e wK ⟨rfl,hcK⟩))
     have CK:=box (HC.out.trans (Ca.out.trans (show Calm wa wK by exact cm)))
     clear c0 c1 c2 c3 clt r0 r1 r2 r3 r4 r5 r6 r7 r8 r9 rlt m0 m1 m2 m3 m4 m5 m6 m7 m8 m9 o1 mlt ilt hcg hci hcs hct hss hcK
     go_wp2_with fail
     go_roundw
     case rel=>exact⟨i+1,by omega,by go_num,CK⟩
     case measure=>simp [intOf];omega
    ·as_aux_lemma =>
     obtain rfl:i=A0.length:=by omega
     have hfz:=fair_of (m:=m) (Sa.out.calm (C1.out.trans YR.out.owns)) Mz.out Sm.out
     have Fz:=box (fun W' (hc:Calm W1 W')=>fair_of (m:=m) (Sa.out.calm (C1.out.trans hc)) Mz.out Sm.out)
     have hBz:B'.size≤1000000:=by have:=HBs.out;have:=Hen.out;omega
     have hBe:=box (show B'.size%1024=0∨B'.size%1024+3≤1024 by rw[HBs.out];exact Hle0.out)
     have hco:=box (rCost_any g B' _ _ _ m (.slice ka m.keys.length kcap) _ YR.out.rt.obj hfz.keys Mz.out.2.2.2.2.1 ⟨Mz.out.1,Mz.out.2.1,Mz.out.2.2.1⟩ hBz hBe.out)
     obtain⟨ia1,in1,ic1,rfl⟩:=row_slice YR.out.rt.ids
     obtain⟨la1,ln1,lc1,rfl⟩:=row_slice YR.out.rt.row
     obtain⟨⟨x0,x1,x2,x3,x4,x5,x6,x7,x8,x9⟩,xlt⟩:=msg_lies (hcm.out _ YR.out.owns)
     clear hfz HC YI I3
     by_cases hok:okM m
     ·have Hok:=box hok
      have hc0:0<costP B'.size m:=cost_pos hok
      obtain⟨cst,hcst⟩:∃cst,costP B'.size m=cst:=⟨_,rfl⟩
      rw[hcst]at hco hc0
      have t1:((cst:Int)==0)=false:=beq_eq_false_iff_ne.2 (by omega)
      have t1b:(cst==0)=false:=beq_eq_false_iff_ne.2 (by omega)
      clear hok hcst hc0
      go_wp2_with fail
      refine hco.out.mono ?_
      rintro e wK ⟨rfl,hcK⟩
      have YK:=box (YR.out.calm hcK)
      clear hcK hco x0 x1 x2 x3 x4 x5 x6 x7 x8 x9 xlt YR
      have hap:=YK.out.append Hsmf.out m _ (Fz.out _ YK.out.owns) Hok.out
      rw[Hflat.out]at hap
      obtain⟨idn,hidn⟩:∃idn,idP fi m=idn:=⟨_,rfl⟩
      have Hidn:=box hidn
      rw[hidn]at hap
      have Hap:=box hap
      obtain⟨⟨x0,x1,x2,x3,x4,x5,x6,x7,x8,x9⟩,xlt⟩:=msg_lies (hcm.out _ YK.out.owns)
      clear hidn hap
      go_wp2_with fail
      refine Hap.out.mono ?_
      rintro e wL ⟨rfl,hZ⟩
      have ZL:=box hZ
      have hrd:=box hZ.reads
      clear hZ Hap x0 x1 x2 x3 x4 x5 x6 x7 x8 x9 xlt YK
      go_wp2_with fail
      refine hrd.out.mono ?_
      rintro e wM ⟨hcM,kv',rfl,hkv',hfr⟩
      have Hkv:=box hkv'
      have Hfr:=box hfr
      have CM:=box hcM
      obtain⟨ya',ycap,rfl,_⟩:=hkv'.uni
      obtain⟨wb,hwb⟩:∃wb,wM.alloc (.cells (msgA m (.slice ya' m.keys.length ycap)) 63)=wb:=⟨_,rfl⟩
      have Jb:=box (show wb.heap[wM.heap.size]? = some (.cells (msgA m (.slice ya' m.keys.length ycap)) 63 (0,0)) by rw[←hwb];exact heap_new wM _)
      have Cb:=box (show Calm wM wb by rw[←hwb];exact(Calm.refl wM).alloc _)
      obtain⟨mb,hmb⟩:∃mb,wM.heap.size=mb:=⟨_,rfl⟩
      rw[hmb]at Jb
      have ZB:=box (ZL.out.calm (CM.out.trans Cb.out))
      obtain⟨z0,z1,z2,z3,zlt⟩:=ZB.out.rt.cells
      have KB:=box (Hkv.out.calm Cb.out)
      clear hcM hkv' hfr hrd
      have hst:=box (fun W' kv2 (h1:StrsAt W' kv2 m.keys) (h2:Calm W1 W')=>(rSame_any m m kv2 (.slice ka m.keys.length kcap) W' h1 (Sa.out.calm (C1.out.trans h2)) (Fz.out _ h2).len (Fz.out _ h2).len).mono (fun e w2 (h:_∧_)=>(⟨h.1.trans (by rw[decide_eq_true rfl]),h.2⟩:e=.returned (.bool true)∧Calm W' w2)))
      go_upto_region 54 with fail
      (try rw[hwb])
      (try rw[hmb])
      clear hwb
      rcases Hfin.out with h|⟨h,h2⟩
      ·as_aux_lemma =>
       have hbf:B'.size=fi:=by rw[HBs.out,h]
       have u1:((fi:Int)==(B'.size:Int))=true:=by rw[hbf];exact beq_self_eq_true _
       have u1b:(fi==B'.size)=true:=by rw[hbf];exact beq_self_eq_true _
       have hra:=rAppend_any m (.slice ka m.keys.length kcap) wb ZB.out.rt ZB.out.owns (Sa.out.calm C1.out) (Fz.out _ ZB.out.owns).len Mz.out.2.2.2.2.1 ⟨Mz.out.1,Mz.out.2.1,Mz.out.2.2.1⟩ Hok.out hBz hBe.out (by have:=Hen.out;omega)
       have Hra:=box hra
       have Hbf:=box hbf
       obtain⟨⟨x0,x1,x2,x3,x4,x5,x6,x7,x8,x9⟩,xlt⟩:=msg_lies (hcm.out _ ZB.out.owns)
       clear hra hbf h
       go_wp2_with fail
       refine Hra.out.mono ?_
       rintro e wN ⟨rfl,_,_,_,_,_,hKN,_⟩
       have hgl:=heap_lt ZL.out.rt.obj
       have hFl:∀b,(b=g∨(Value.slice ia1 in1 ic1).ownBlock=some b∨(Value.slice la1 ln1 lc1).ownBlock=some b)→b<wL.heap.size:=fun b hb=>by
        rcases hb with rfl|hb|hb
        ·exact hgl
        ·exact(ZL.out.rt.ids.lt b hb).2
        ·exact(ZL.out.rt.row.lt b hb).2
       have JN:=box ((hKN.block mb (heap_lt Jb.out) (fun e=>by have:=hFl mb e;have:=CM.out.size;omega)).trans Jb.out)
       have KN:=strs_keep KB.out hKN (fun a n c e hn hf=>by have:=hFl _ hf;have:=Hfr.out a n c e hn;omega)
       have CN:=box (show Calm W1 wN from Below.trans ZB.out.owns (hKN.below ZB.out.owns.size (fun b hb=>by
        rcases hb with rfl|hb|hb
        ·exact ZB.out.rt.gW
        ·exact(ZB.out.rt.ids.lt b hb).1
        ·exact(ZB.out.rt.row.lt b hb).1)))
       have hsm:=box (hst.out wN _ KN CN.out)
       have u2:idP B'.size m=idn:=by rw[Hbf.out];exact Hidn.out
       rw[u2]
       have u3:((idn:Int)==(idn:Int))=true:=beq_self_eq_true _
       clear hFl hKN KN u2 x0 x1 x2 x3 x4 x5 x6 x7 x8 x9 xlt z0 z1 z2 z3 zlt
       obtain⟨⟨x0,x1,x2,x3,x4,x5,x6,x7,x8,x9⟩,xlt⟩:=msg_lies (hcm.out _ CN.out)
       obtain⟨⟨y0,y1,y2,y3,y4,y5,y6,y7,y8,y9⟩,ylt⟩:=msg_lies JN.out
       go_wp2_with fail
       refine hsm.out.mono ?_
       rintro e wO ⟨rfl,hcO⟩
       have CO:=box (C1.out.trans (CN.out.trans hcO))
       clear hcO hsm
       go_wp2_with fail
       go_ret
       exact⟨rfl,CO.out⟩
      ·as_aux_lemma =>
       have u1:((fi:Int)==(B'.size:Int))=false:=beq_eq_false_iff_ne.2 (by have:=HBs.out;omega)
       have u1b:(fi==B'.size)=false:=beq_eq_false_iff_ne.2 (by have:=HBs.out;omega)
       have u2:fi=idn:=(id_at Hok.out h2).symm.trans Hidn.out
       have u3:((idn:Int)==(fi:Int))=true:=by rw[u2];exact beq_self_eq_true _
       have u3b:(idn==fi)=true:=by rw[u2];exact beq_self_eq_true _
       have hsm:=box (hst.out wb _ KB.out ZB.out.owns)
       clear u2 h h2
       obtain⟨⟨x0,x1,x2,x3,x4,x5,x6,x7,x8,x9⟩,xlt⟩:=msg_lies (hcm.out _ ZB.out.owns)
       obtain⟨⟨y0,y1,y2,y3,y4,y5,y6,y7,y8,y9⟩,ylt⟩:=msg_lies Jb.out
       go_wp2_with fail
       refine hsm.out.mono ?_
       rintro e wO ⟨rfl,hcO⟩
       have CO:=box (C1.out.trans (ZB.out.owns.trans hcO))
       clear hcO hsm
       go_wp2_with fail
       go_ret
       exact⟨rfl,CO.out⟩
     ·have hc0:costP B'.size m=0:=by unfold costP;rw[if_neg hok]
      rw[hc0]at hco
      clear hok hc0
      go_wp2_with fail
      refine hco.out.mono ?_
      rintro e wK ⟨rfl,hcK⟩
      have CK:=box (C1.out.trans (YR.out.owns.trans hcK))
      clear hcK hco x0 x1 x2 x3 x4 x5 x6 x7 x8 x9 xlt
      go_wp2_with fail
      go_ret
      exact⟨rfl,CK.out⟩
end Go.Proofs.YtiahjipoofeliaaGreatDoor.tp
