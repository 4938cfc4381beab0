/- Lemmas for this claim. -/
import Derived.Test.YtiahjipoofeliaaGreatDoorPk34
set_option maxRecDepth 100000
namespace Go.Proofs.YtiahjipoofeliaaGreatDoor.rc
open Go.ChangeShapes Go.WideShapes Go.ChangeAt Go.RowKit Go.Shelf
open nm vs
def MsgR:Reads MsgS:=fun w cs m=>∃kv,cs=(msgA m kv).toList∧RowsAt StrR 1 w kv m.keys∧m.topic.size≤maxLen∧m.tag.size≤maxLen∧m.body.size≤maxLen∧(-9223372036854775808≤m.kind∧m.kind≤9223372036854775807)∧(-9223372036854775808≤m.retry∧m.retry≤9223372036854775807)
theorem opens_msg:Opens Tryz.prog 63 MsgR:=fun H enc w base sp held fuel cs x h=>by
 obtain⟨xs,n,_,_,hlen,hxl,hg⟩:=DataW.trod_struct Tryz.underlying63 h
 rw[show Tryz.prog.cellsOf 63=10 by kernel_rfl]at hlen
 match cs,hlen with
 | [c0,c1,c2,c3,c4,c5,c6,c7,c8,c9],_ =>
  have hx:∀i,i<xs.length→∃y,xs[i]? = some y:=fun i hi=>⟨_,List.getElem?_eq_getElem hi⟩
  simp only[List.size_toArray,List.length_cons,List.length_nil]at hxl
  have g0:=hg 0 _ rfl
  have g1:=hg 1 _ rfl
  have g2:=hg 2 _ rfl
  have g3:=hg 3 _ rfl
  have g4:=hg 4 _ rfl
  have g5:=hg 5 _ rfl
  have g6:=hg 6 _ rfl
  have g7:=hg 7 _ rfl
  have g8:=hg 8 _ rfl
  have g9:=hg 9 _ rfl
  clear hg
  rw[List.getElem?_eq_getElem (by omega)]at g0 g1 g2 g3 g4 g5 g6 g7 g8 g9
  obtain⟨a0,h0,r0,q0⟩:=opens_int Tryz.underlying3 _ _ _ _ _ _ _ _ _ g0
  obtain⟨a1,h1,_⟩:=opens_int Tryz.underlying3 _ _ _ _ _ _ _ _ _ g1
  obtain⟨a2,h2,_⟩:=opens_int Tryz.underlying3 _ _ _ _ _ _ _ _ _ g2
  obtain⟨a3,h3,r3,q3⟩:=opens_int Tryz.underlying3 _ _ _ _ _ _ _ _ _ g3
  obtain⟨a4,h4,_⟩:=opens_int Tryz.underlying3 _ _ _ _ _ _ _ _ _ g4
  obtain⟨a5,h5,_⟩:=opens_int Tryz.underlying3 _ _ _ _ _ _ _ _ _ g5
  obtain⟨a6,h6,r6⟩:=opens_string Tryz.underlying9 _ _ _ _ _ _ _ _ _ g6
  obtain⟨a7,h7,r7⟩:=opens_string Tryz.underlying9 _ _ _ _ _ _ _ _ _ g7
  obtain⟨a8,h8,r8⟩:=opens_string Tryz.underlying9 _ _ _ _ _ _ _ _ _ g8
  obtain⟨a9,kv,h9,r9⟩:=opens_slice (c:=1) Tryz.underlying61 (by kernel_rfl) (by decide) (opens_string Tryz.underlying9) _ _ _ _ _ _ _ _ _ g9
  refine⟨⟨a0,a1,a2,a3,a4,a5,a6,a7,a8,a9⟩,kv,?_,r9,r6,r7,r8,⟨r0,q0⟩,r3,q3⟩
  have n1:Tryz.prog.cellsOf 3=1:=by kernel_rfl
  have n2:Tryz.prog.cellsOf 9=1:=by kernel_rfl
  have n3:Tryz.prog.cellsOf 61=1:=by kernel_rfl
  simp [n1,n2,n3]at h0 h1 h2 h3 h4 h5 h6 h7 h8 h9
  subst h0 h1 h2 h3 h4 h5 h6 h7 h8 h9
  rfl
theorem struct_shape {P:Program} {w:World} {r:Reach} {b:Nat} {t:TypeId} {v:Value} {fs:Array Field} (ht:P.underlying t=some (.struct fs)) (h:Value.okWide P w r b t v):∃cs,v=.agg cs:=by
 obtain⟨cs,h1,_⟩:=okWide_struct ht h;exact⟨cs,h1⟩
def MsgIn (w:World) (y:MsgS×Value):Prop:=RowsAt StrR 1 w y.2 y.1.keys∧y.1.topic.size≤maxLen∧y.1.tag.size≤maxLen∧y.1.body.size≤maxLen∧(-9223372036854775808≤y.1.kind∧y.1.kind≤9223372036854775807)∧(-9223372036854775808≤y.1.retry∧y.1.retry≤9223372036854775807)
theorem msg_arg {w:World} {v:Value} (hv:∃cs,v=.agg cs) (h:∃y,MsgR w v.cells.toList y):∃y:MsgS×Value,v=.agg (msgA y.1 y.2)∧MsgIn w y:=by
 obtain⟨cs,rfl⟩:=hv
 obtain⟨y,kv,he,hr⟩:=h
 refine⟨(y,kv),?_,hr⟩
 simp only[Value.cells]at he
 rw[Array.toList_inj.1 he]
def Small (m:MsgS):Prop:=m.body.size≤2000∧m.topic.size≤100∧m.tag.size≤100∧m.keys.length≤10∧∀s∈m.keys,s.size≤100
def GreatDone (m:MsgS) (w:World) (e:Ending) (w':World):Prop:=∃g,e=.returned (.bool g)∧Calm w w'∧(g=false→Small m)
set_option maxHeartbeats 4000000 in
theorem Great_any (b:Nat) (m:MsgS) (kv:Value) (w:World) (h:MsgAt w b m kv) (hk:StrsAt w kv m.keys) (hs:∀s∈m.keys,s.size≤maxLen) (hz:m.body.size≤maxLen∧m.topic.size≤maxLen∧m.tag.size≤maxLen∧m.keys.length≤maxLen) :
  Calls Tryz.prog 21 #[.slice (some ⟨b,0,none⟩) 1 1] w (GreatDone m w):=by
 obtain⟨kd,q,du,rt,rf,bn,tp,tg,bd,ks⟩:=m
 simp only at hk hs hz
 obtain⟨z1,z2,z3,z4⟩:=hz
 obtain⟨ka,kcap,rfl,hcells⟩:=hk.uni
 have Hc:=box hcells
 have Hs:=box hs
 unfold maxLen at z1 z2 z3 z4
 have c0:=cell_of h 0
 have c1:=cell_of h 1
 have c2:=cell_of h 2
 have c3:=cell_of h 3
 have c4:=cell_of h 4
 have c5:=cell_of h 5
 have c6:=cell_of h 6
 have c7:=cell_of h 7
 have c8:=cell_of h 8
 have c9:=cell_of h 9
 have hlt:=heap_lt h
 have Ha:=box ((Calm.refl w).alloc (.cells (msgA ⟨kd,q,du,rt,rf,bn,tp,tg,bd,ks⟩ (.slice ka ks.length kcap)) 63))
 clear h hk hs hcells
 go_enter Tryz.func21,Tryz.ntmps21
 go_wp2_with fail
 go_loopw [9] (fun i wr=>(i=.int .i64 0∧wr=w)∨(i=.int .i64 1∧Calm w wr∧Small ⟨kd,q,du,rt,rf,bn,tp,tg,bd,ks⟩)) (fun i _=>1-(intOf i).toNat)
 case atStart=>exact .inl ⟨rfl,rfl⟩
 case round =>
  rcases hrel with ⟨rfl,rfl⟩|⟨rfl,hcal,hsm⟩
  ·go_wp2_with fail
   all_goals first|(go_ret;exact⟨true,rfl,Ha.out,fun h=>by cases h⟩)|skip
   go_loopw [38] (fun i wr'=>∃k:Nat,k≤ks.length∧i=.int .i64 k∧Calm wr wr'∧∀j (hj:j<k) (hj':j<ks.length),ks[j].size≤100) (fun i _=>ks.length-(intOf i).toNat)
   case atStart=>exact⟨0,Nat.zero_le _,rfl,Ha.out,fun j hj=>absurd hj (Nat.not_lt_zero _)⟩
   case round =>
    obtain⟨k,hk,rfl,hcal,hall⟩:=hrel
    have HC:=box hcal
    have HA:=box hall
    clear hcal hall c0 c1 c2 c3 c4 c5 c6 c7 c8 c9 hlt
    by_cases hkl:k<ks.length
    ·obtain⟨kb,koff,rfl,hkb,hkc⟩:=Hc.out k hkl
     have kc:=(HC.out.cell (p:=⟨kb,koff+k,none⟩) hkb).trans hkc
     have klt:=Nat.lt_of_lt_of_le hkb HC.out.size
     rw[List.getD_eq_getElem?_getD,List.getElem?_eq_getElem hkl]at kc
     simp only[Option.getD_some]at kc
     have HA1:=box (show ks[k].size≤100→∀j (hj:j<k+1) (hj':j<ks.length),ks[j].size≤100 from fun h j hj hj'=>by
      by_cases e:j=k
      ·subst e;exact h
      ·exact HA.out j (by omega) hj')
     have hss:=Hs.out _ (List.getElem_mem hkl)
     obtain⟨s,hs⟩:∃s,ks[k]=s:=⟨_,rfl⟩
     rw[hs]at kc HA1 hss
     unfold maxLen at hss
     clear hs hkc
     by_cases h100:100<s.size
     ·go_wp2_with fail
      go_ret
      exact⟨true,rfl,HC.out,fun h=>by cases h⟩
     ·go_wp2_with fail
      go_roundw
      case rel=>exact⟨k+1,by omega,by go_num,HC.out,HA1.out (by omega)⟩
      case measure=>simp [intOf];omega
    ·obtain rfl:k=ks.length:=by omega
     have Hsm:=box (show Small ⟨kd,q,du,rt,rf,bn,tp,tg,bd,ks⟩ from ⟨by simp only;omega,by simp only;omega,by simp only;omega,by simp only;omega,fun s hs=>by
      obtain⟨j,hj,rfl⟩:=List.mem_iff_getElem.1 hs
      exact HA.out j hj hj⟩)
     go_wp2_with fail
     go_roundw
     case rel=>exact .inr ⟨rfl,HC.out,Hsm.out⟩
     case measure=>simp [intOf]
  ·go_wp2_with fail
   go_ret
   exact⟨false,rfl,hcal,fun _=>hsm⟩
theorem MsgR.lasts:MsgR.Lasts:=fun _ _ _ _ h hc=>by
 obtain⟨kv,h1,h2,h3⟩:=h
 exact⟨kv,h1,h2.calm StrR.lasts hc,h3⟩
def MsgZ (m:MsgS):Prop:=m.topic.size≤maxLen∧m.tag.size≤maxLen∧m.body.size≤maxLen∧m.keys.length≤maxLen∧(∀s∈m.keys,s.size≤maxLen)∧(-9223372036854775808≤m.kind∧m.kind≤9223372036854775807)∧(-9223372036854775808≤m.retry∧m.retry≤9223372036854775807)
theorem RowsAt.msgs {w:World} {v:Value} {l:List MsgS} (h:RowsAt MsgR 10 w v l):∃a cap,v=.slice a l.length cap∧l.length≤maxLen∧∀i (hi:i<l.length),∃b off kv,a=some ⟨b,off,none⟩∧b<w.heap.size ∧
  (∀j,j<10→w.cell? ⟨b,off+i * 10+j,none⟩=(msgA l[i] kv)[j]?)∧StrsAt w kv l[i].keys∧MsgZ l[i]:=by
 obtain⟨a,cap,rfl,h2,h3,h4⟩:=h
 refine⟨a,cap,rfl,by omega,fun i hi=>?_⟩
 obtain⟨b,off,cs,e,hb,hl,hcell,hr0⟩:=h4 i hi
 unfold MsgR at hr0
 obtain⟨kv,hr,hk,z1,z2,z3,z4,z5⟩:=hr0
 obtain⟨k1,k3,k2⟩:=RowsAt.strs hk
 refine⟨b,off,kv,e,hb,fun j hj=>?_,k1,z1,z2,z3,k2,k3,z4,z5⟩
 rw[hcell j hj,hr]
 simp
def GreatL (l:List MsgS) (w:World) (e:Ending) (w':World):Prop:=∃g,e=.returned (.bool g)∧Calm w w'∧(g=false→∀m∈l,Small m)
set_option maxHeartbeats 8000000 in
theorem GreatL_any (v:Value) (l:List MsgS) (w:World) (h:RowsAt MsgR 10 w v l) :
  Calls Tryz.prog 21 #[v] w (GreatL l w):=by
 obtain⟨a,cap,rfl,hlm,hel⟩:=RowsAt.msgs h
 have HE:=box hel
 unfold maxLen at hlm
 clear h hel
 go_enter Tryz.func21,Tryz.ntmps21
 go_wp2_with fail
 go_loopw [9] (fun i wr=>∃k:Nat,k≤l.length∧i=.int .i64 k∧Calm w wr∧Box (∀j (hj:j<k) (hj':j<l.length),Small l[j])) (fun i _=>l.length-(intOf i).toNat)
 case atStart=>exact⟨0,Nat.zero_le _,rfl,Calm.refl _,box (fun j hj=>absurd hj (Nat.not_lt_zero _))⟩
 case round =>
  obtain⟨n,hn,rfl,hcal0,HS⟩:=hrel
  have HC0:=box hcal0
  obtain⟨wo,hwo⟩:∃wo:World,wo=wr:=⟨_,rfl⟩
  subst hwo
  clear hcal0
  by_cases hnl:n<l.length
  ·obtain⟨eb,eoff,kv,rfl,heb,hec,hks,z1,z2,z3,z4,z5,_⟩:=HE.out n hnl
   obtain⟨⟨kd,q,du,rt,rf,bn,tp,tg,bd,ks⟩,hm⟩:∃m,l[n]=m:=⟨_,rfl⟩
   rw[hm]at hec hks z1 z2 z3 z4 z5
   simp only at hks z1 z2 z3 z4 z5
   have HSn:=box (show Small ⟨kd,q,du,rt,rf,bn,tp,tg,bd,ks⟩→∀j (hj:j<n+1) (hj':j<l.length),Small l[j] from fun hs j hj hj'=>by
    by_cases e:j=n
    ·subst e;rw[hm];exact hs
    ·exact HS.out j (by omega) hj')
   clear hm
   obtain⟨ka,kcap,rfl,hcells⟩:=(hks.calm HC0.out).uni
   have Hc:=box hcells
   have Hs:=box z5
   unfold maxLen at z1 z2 z3 z4
   have c0:=(HC0.out.cell (p:=⟨eb,eoff+n * 10,none⟩) heb).trans (hec 0 (by decide))
   have c1:=(HC0.out.cell (p:=⟨eb,eoff+n * 10+1,none⟩) heb).trans (hec 1 (by decide))
   have c2:=(HC0.out.cell (p:=⟨eb,eoff+n * 10+2,none⟩) heb).trans (hec 2 (by decide))
   have c3:=(HC0.out.cell (p:=⟨eb,eoff+n * 10+3,none⟩) heb).trans (hec 3 (by decide))
   have c4:=(HC0.out.cell (p:=⟨eb,eoff+n * 10+4,none⟩) heb).trans (hec 4 (by decide))
   have c5:=(HC0.out.cell (p:=⟨eb,eoff+n * 10+5,none⟩) heb).trans (hec 5 (by decide))
   have c6:=(HC0.out.cell (p:=⟨eb,eoff+n * 10+6,none⟩) heb).trans (hec 6 (by decide))
   have c7:=(HC0.out.cell (p:=⟨eb,eoff+n * 10+7,none⟩) heb).trans (hec 7 (by decide))
   have c8:=(HC0.out.cell (p:=⟨eb,eoff+n * 10+8,none⟩) heb).trans (hec 8 (by decide))
   have c9:=(HC0.out.cell (p:=⟨eb,eoff+n * 10+9,none⟩) heb).trans (hec 9 (by decide))
   simp only[List.getElem?_toArray,List.getElem?_cons_zero,List.getElem?_cons_succ]at c0 c1 c2 c3 c4 c5 c6 c7 c8 c9
   have hlt:=Nat.lt_of_lt_of_le heb HC0.out.size
   have Ha:=box (HC0.out.alloc (.cells (msgA ⟨kd,q,du,rt,rf,bn,tp,tg,bd,ks⟩ (.slice ka ks.length kcap)) 63))
   have Ha2:=box ((Calm.refl wo).alloc (.cells (msgA ⟨kd,q,du,rt,rf,bn,tp,tg,bd,ks⟩ (.slice ka ks.length kcap)) 63))
   clear hks hcells hec z5
   go_wp2_with fail
   all_goals first|(go_ret;exact⟨true,rfl,Ha.out,fun h=>by cases h⟩)|skip
   go_loopw [38] (fun i wr'=>∃k:Nat,k≤ks.length∧i=.int .i64 k∧Calm wo wr'∧∀j (hj:j<k) (hj':j<ks.length),ks[j].size≤100) (fun i _=>ks.length-(intOf i).toNat)
   case atStart=>exact⟨0,Nat.zero_le _,rfl,Ha2.out,fun j hj=>absurd hj (Nat.not_lt_zero _)⟩
   case round =>
    obtain⟨k,hk,rfl,hcal,hall⟩:=hrel
    have HC:=box hcal
    have HA:=box hall
    clear hcal hall c0 c1 c2 c3 c4 c5 c6 c7 c8 c9 hlt
    by_cases hkl:k<ks.length
    ·obtain⟨kb,koff,hka,hkb,hkc⟩:=Hc.out k hkl
     subst hka
     have kc:=(HC.out.cell (p:=⟨kb,koff+k,none⟩) hkb).trans hkc
     have klt:=Nat.lt_of_lt_of_le hkb HC.out.size
     rw[List.getD_eq_getElem?_getD,List.getElem?_eq_getElem hkl]at kc
     simp only[Option.getD_some]at kc
     have HA1:=box (show ks[k].size≤100→∀j (hj:j<k+1) (hj':j<ks.length),ks[j].size≤100 from fun h j hj hj'=>by
      by_cases e:j=k
      ·subst e;exact h
      ·exact HA.out j (by omega) hj')
     have hss:=Hs.out _ (List.getElem_mem hkl)
     obtain⟨s,hs⟩:∃s,ks[k]=s:=⟨_,rfl⟩
     rw[hs]at kc HA1 hss
     unfold maxLen at hss
     clear hs hkc
     by_cases h100:100<s.size
     ·go_wp2_with fail
      go_ret
      exact⟨true,rfl,HC0.out.trans HC.out,fun h=>by cases h⟩
     ·go_wp2_with fail
      go_roundw
      case rel=>exact⟨k+1,by omega,by go_num,HC.out,HA1.out (by omega)⟩
      case measure=>simp [intOf];omega
    ·obtain rfl:k=ks.length:=by omega
     have Hsm:=box (show Small ⟨kd,q,du,rt,rf,bn,tp,tg,bd,ks⟩ from ⟨by simp only;omega,by simp only;omega,by simp only;omega,by simp only;omega,fun s hs=>by
      obtain⟨j,hj,rfl⟩:=List.mem_iff_getElem.1 hs
      exact HA.out j hj hj⟩)
     go_wp2_with fail
     go_roundw
     case rel=>exact⟨n+1,by omega,by go_num,HC0.out.trans HC.out,box (HSn.out Hsm.out)⟩
     case measure=>simp [intOf];omega
  ·obtain rfl:n=l.length:=by omega
   go_wp2_with fail
   go_ret
   exact⟨false,rfl,HC0.out,fun _ m hm=>by
    obtain⟨j,hj,rfl⟩:=List.mem_iff_getElem.1 hm
    exact HS.out j hj hj⟩
end Go.Proofs.YtiahjipoofeliaaGreatDoor.rc

namespace Go.Proofs.YtiahjipoofeliaaGreatDoor.tp
open Go.ChangeShapes Go.WideShapes Go.ChangeAt Go.RowKit Go.ChangeMaps Go.MapKept
open rc oc cr dk sg
structure Lt (W:World) (t p c k:Nat) (S:TS) (G:Nat→Prop) (w:World):Prop where
 tp:∃n,Tp W t p n S G w∧n≤2 * k
 alive:Alive S.D
 cap:S.D.cap=(c:Int)
 fin:S.R.fin≤1345 * k
 size:S.D.size≤1345 * k
 files:S.D.files.length≤2 * k
 names:∀f∈S.D.files,f.name.size≤1000
 tight:Tight S.R
 synced:S.R.synced≤S.R.fin
section
variable {W w w':World} {t p n r sb mb c m k:Nat} {D D' E:DiskS} {R R':RowS} {L:List (Nat×MsgS)} {last:Int} {F F' G G':Nat→Prop} {v v' iv:Value} {S S':TS} {b:List UInt8} {ps:List Pc} {tl:List UInt8}
theorem Lt.calm (h:Lt W t p c k S G w) (hc:Calm w w'):Lt W t p c k S G w':=by
 obtain⟨n,h1,h2⟩:=h.tp
 exact⟨⟨n,h1.calm hc,h2⟩,h.alive,h.cap,h.fin,h.size,h.files,h.names,h.tight,h.synced⟩
theorem Lt.owns (h:Lt W t p c k S G w):Calm W w:=by
 obtain⟨n,h1,_⟩:=h.tp
 exact h1.owns
theorem Lt.lt (h:Lt W t p c k S G w):∀b,G b→b<w.heap.size:=by
 obtain⟨n,h1,_⟩:=h.tp
 exact h1.lt
theorem Lt.able (h:Lt W t p c k S G w):Able S.D c (1347 * k) :=
 ⟨h.alive,h.cap,by have:=h.size;omega,by have:=h.files;rw[List.length_map];omega,fun s hs=>by
  obtain⟨f,hf,rfl⟩:=List.mem_map.1 hs
  exact h.names f hf⟩
theorem cost_le (e:Nat) (m:MsgS):costP e m≤1345:=by
 unfold costP
 split
 ·rename_i hok
  have hb:=recB_bounds hok.1 hok.2
  unfold laidP
  split
  ·rw[flat_len_cons,flat_nil,Pc.len_one];simp;omega
  ·rw[flat_len_cons,flat_len_cons,flat_nil,Pc.len_one]
   by_cases h3:3≤roomAt e
   ·rw[Pc.len_fill h3];unfold roomAt;simp;omega
   ·have h4:(Pc.fill (roomAt e)).len≤1024:=by
     show (fillB _).data.toList.length≤_
     rw[size_toList]
     show (_:List UInt8).toArray.size≤_
     simp [oc.low_length]
     omega
    simp;omega
 ·omega
def LtApp (W:World) (t p c k:Nat) (S:TS) (m:MsgS) (G:Nat→Prop) (w:World) (e:Ending) (w':World):Prop :=
 (¬okM m∧e=.returned (.tuple #[.int .i64 0,.int .i64 1])∧∃G',Lt W t p c (k+1) S G' w'∧Step G w G' w') ∨
 (okM m∧(c:Int)-S.D.size<(costP S.R.fin m:Int)∧e=.returned (.tuple #[.int .i64 0,.int .i64 7])∧∃G',Lt W t p c (k+1) S G' w'∧Step G w G' w') ∨
 (okM m∧(costP S.R.fin m:Int)≤(c:Int)-S.D.size∧e=.returned (.tuple #[.int .i64 (idP S.R.fin m:Int),.int .i64 0])∧∃S' G',TpDone S m S'∧Lt W t p c (k+1) S' G' w'∧Step G w G' w')
theorem Lt.append (h:Lt W t p c k S G w) (hk:k≤500) (m:MsgS) (kv:Value) (hm:Fair w m kv) :
  Calls Tryz.prog 26 #[ptrTo t,.agg (msgA m kv)] w (LtApp W t p c k S m G w):=by
 obtain⟨n,h1,h2⟩:=h.tp
 have hf:=h.fin
 refine(Append_any m kv w h1 hm (by omega) (by omega)).mono ?_
 rintro e w' ⟨S',G',h3,h4,⟨a1,rfl,rfl⟩|⟨a1,a2,_⟩|⟨a1,a2,a3,rfl,rfl⟩|⟨a1,a2,a3,_,a4⟩|⟨a1,a2,a3,rfl,a4⟩⟩
 ·exact .inl ⟨a1,rfl,G',⟨⟨_,h3,by omega⟩,h.alive,h.cap,by have:=h.fin;omega,by have:=h.size;omega,by have:=h.files;omega,h.names,h.tight,h.synced⟩,h4⟩
 ·rw[h.alive.down]at a2;cases a2
 ·rw[h.cap]at a3
  exact .inr (.inl ⟨a1,a3,rfl,G',⟨⟨_,h3,by omega⟩,h.alive,h.cap,by have:=h.fin;omega,by have:=h.size;omega,by have:=h.files;omega,h.names,h.tight,h.synced⟩,h4⟩)
 ·exact absurd h.alive a4.dead
 ·rw[h.cap]at a3
  have hc:=cost_le S.R.fin m
  refine .inr (.inr ⟨a1,a3,rfl,S',G',a4,⟨⟨_,h3,by omega⟩,a4.alive h.alive,a4.cap.trans h.cap,?_,?_,?_,a4.names h.names,a4.tight,?_⟩,h4⟩)
  ·have:=a4.fin;omega
  ·have:=a4.size;have:=h.size;omega
  ·have:=a4.few;have:=h.files;omega
  ·have:=a4.kin.synced;have:=a4.fin;have:=h.synced;omega
theorem Lt.size_ (h:Lt W t p c k S G w) (a:Int):Calls Tryz.prog 53 #[ptrTo t,.int .i64 a] w fun e w'=>e=.returned (.int .i64 (sizeOf' S.recs a:Int))∧w=w':=by
 obtain⟨n,h1,_⟩:=h.tp
 exact Size_any a w h1
theorem open_new (c:Nat) (hc24:c≤16777216) (hd:DiskOk w p (dk.new (c:Int)) F 0) (ht:Tab W) (hcW:Calm W w) (hfW:∀b,F b→W.heap.size≤b) :
  Calls Tryz.prog 22 #[ptrTo p] w fun e w'=>∃t S G,e=.returned (.tuple #[ptrTo t,.int .i64 0])∧Lt W t p c 0 S G w'∧Step F w G w'∧S.ps=[]∧S.R.start=0:=by
 have hH:Holds (dk.new (c:Int)) ⟨tapeN,1024,0,0,0,0⟩ (flat []++[]):=Holds.none (by decide) (by decide) (fun k _=>rfl)
 have hal:=new_alive (c:Int)
 have ho:=Holds.open hH hal hd.form
 have hA:=Able.new c hc24
 refine(Open_any (ps:=[]) (tl:=[]) (E:=dk.new (c:Int)) (R:=⟨tapeN,1024,0,0,0,0⟩) (c:=c) (m:=0) w hd ht hcW hfW (by decide) (fun f hf=>by cases hf) (Nat.zero_le _) ho hH hA rfl rfl rfl trivial (.inl rfl) (Nat.zero_le _)).mono ?_
 rintro e w' ⟨t,D',R',last,G',rfl,_,hO⟩
 have h0:R'.fin=0:=hO.fin
 refine⟨t,⟨D',R',[],last⟩,G',rfl,⟨⟨0,hO.tp,Nat.le_refl _⟩,hO.able.alive,hO.able.cap,Nat.le_of_eq h0,hO.able.size,?_,?_,hO.tight (.inl (Nat.zero_le _)),Nat.le_of_eq hO.synced⟩,hO.step,rfl,hO.start⟩
 ·have:=hO.able.few
  rw[List.length_map]at this
  exact this
 ·exact fun f hf=>hO.able.names f.name (List.mem_map.2 ⟨f,hf,rfl⟩)
end
abbrev aM:MsgS:=⟨1,0,0,0,0,0,⟨#[97]⟩,⟨#[]⟩,⟨#[]⟩,[]⟩
theorem aM_ok:okM aM:=of_decide_eq_true (by kernel_rfl)
theorem aM_fair (w:World):Fair w aM (.slice none 0 0):=⟨.inl ⟨rfl,none,0,rfl⟩,(fun s hs=>by cases hs),by decide,by decide⟩
theorem one_id {e:Nat} {m:MsgS} (h:okM m) (he:e%1024≤600):goesIn e (recB m).size∧idP e m=e∧costP e m=(recB m).size∧laidP e m=[.one m]:=by
 have hb:=recB_bounds h.1 h.2
 have hg:goesIn e (recB m).size:=by unfold goesIn roomAt;omega
 have hl:laidP e m=[.one m]:=by unfold laidP;rw[if_pos hg]
 refine⟨hg,by unfold idP;rw[if_pos hg],?_,hl⟩
 rw[cost_laid h,hl,flat_len_cons,flat_nil,Pc.len_one];rfl
theorem step_block {F G:Nat→Prop} {w w':World} (h:Step F w G w') {b:Nat} {o:Obj} (hb:w.heap[b]? = some o) (hn:¬F b):w'.heap[b]? = some o:=h.same hb hn
section
variable {W w w':World} {t p n c k:Nat} {S S':TS} {G G':Nat→Prop}
theorem Lt.end_ok (h:Lt W t p c k S G w):S.R.fin%1024=0∨S.R.fin%1024+3≤1024:=by
 obtain⟨n,h1,_⟩:=h.tp
 exact h1.end_ok
theorem Lt.ends (h:Lt W t p c k S G w):S.R.fin=S.R.start+(flat S.ps).length:=by
 obtain⟨n,h1,_⟩:=h.tp
 exact h1.holds.size
theorem Lt.recs (h:Lt W t p c k S G w) {m:MsgS} (hd:TpDone S m S'):S'.recs=S.recs++[(idP S.R.fin m,m)]:=by
 show tp.recs S'.R.start S'.ps=tp.recs S.R.start S.ps++_
 rw[hd.ps,hd.kin.start,recs_append,←h.ends,laid_recs h.end_ok]
end
set_option maxHeartbeats 8000000 in
theorem awake_any (W:World) (ht:Tab W):Calls Tryz.prog 20 #[] W fun e w'=>e=.returned (.bool true)∧Calm W w':=by
 have HT:=box ht
 clear ht
 go_enter Tryz.func20,Tryz.ntmps20
 go_wp2_with fail
 refine(New_ok _ 10000).mono ?_
 rintro e w1 ⟨p,F1,rfl,hd1,hc1,hF1⟩
 have hopen:=box (open_new 10000 (by decide) hd1 HT.out hc1 hF1)
 clear hd1 hc1 hF1
 go_wp2_with fail
 refine hopen.out.mono ?_
 rintro e w2 ⟨t,S,G,rfl,hL,_,hps,hst⟩
 have J3:=box (heap_new w2 (.cells (msgA aM (.slice none 0 0)) 63))
 have C3:=box ((Calm.refl w2).alloc (.cells (msgA aM (.slice none 0 0)) 63))
 have HL3:=box (hL.calm C3.out)
 have hn3:=box (show ¬G w2.heap.size from fun e=>Nat.lt_irrefl _ (hL.lt _ e))
 have hfin0:S.R.fin=0:=by have:=hL.fin;omega
 obtain⟨g1,g2,g3,g4⟩:=one_id (e:=S.R.fin) aM_ok (by omega)
 have Hid:=box g2
 have Hco:=box g3
 have Hla:=box g4
 have Hps:=box hps
 have Hst:=box hst
 have Hf0:=box hfin0
 have hsz0:=hL.size
 have happ:=box (HL3.out.append (by decide) aM (.slice none 0 0) (aM_fair _))
 clear hL hopen hps hst hfin0 g1 g2 g3 g4
 have c0:=cell_of J3.out 0
 have c1:=cell_of J3.out 1
 have c2:=cell_of J3.out 2
 have c3:=cell_of J3.out 3
 have c4:=cell_of J3.out 4
 have c5:=cell_of J3.out 5
 have c6:=cell_of J3.out 6
 have c7:=cell_of J3.out 7
 have c8:=cell_of J3.out 8
 have c9:=cell_of J3.out 9
 have clt:=heap_lt J3.out
 go_wp2_with fail
 refine happ.out.mono ?_
 have hf0:=Hf0.out
 have hok:=aM_ok
 have hbb:=recB_bounds hok.1 hok.2
 have hci:costP S.R.fin aM=(recB aM).size:=Hco.out
 have hn0:HL3.out.cap=HL3.out.cap:=rfl
 rintro e w3 (⟨a1,_⟩|⟨a1,a2,_⟩|⟨a1,a2,rfl,S1,G1,hD1,hL1,hS1⟩)
 ·exact absurd hok a1
 ·exact absurd a2 (by omega)
 have hrec:=HL3.out.recs hD1
 have hps1:=Hps.out
 have hr0:S.recs=[]:=by show tp.recs S.R.start S.ps=[];rw[hps1];rfl
 rw[hr0,Hid.out,hf0]at hrec
 have hfin1:S1.R.fin=(recB aM).size:=by have:=hD1.fin;omega
 have hsz1:=hD1.size
 have hcell:=step_block hS1 J3.out hn3.out
 have Hid0:=box (show idP S.R.fin aM=0 from by rw[Hid.out];exact hf0)
 obtain⟨g1,g2,g3,g4⟩:=one_id (e:=S1.R.fin) aM_ok (by omega)
 have Hid1:=box g2
 have Hsize:=box (show sizeOf' (S1.recs++[(idP S1.R.fin aM,aM)]) 0=S1.R.fin from by
  rw[hrec,hfin1];rfl)
 have hap2:=box (hL1.append (by decide) aM (.slice none 0 0) (aM_fair _))
 have Hf1:=box hfin1
 have HL4:=box hL1
 have Hc4:=box g3
 have hs4:=box hsz1
 have S4:=box hS1
 have H0:=box (show S.D.size≤0 from by omega)
 clear hS1 hsz1 g1 g2 g3 g4 hrec hL1 hfin1 hn0 hci hps1 hr0 hf0
 have d0:=cell_of hcell 0
 have d1:=cell_of hcell 1
 have d2:=cell_of hcell 2
 have d3:=cell_of hcell 3
 have d4:=cell_of hcell 4
 have d5:=cell_of hcell 5
 have d6:=cell_of hcell 6
 have d7:=cell_of hcell 7
 have d8:=cell_of hcell 8
 have d9:=cell_of hcell 9
 have dlt:=heap_lt hcell
 go_wp2_with fail
 refine hap2.out.mono ?_
 have q1:=Hf1.out
 have q2:=hs4.out
 have q3:=Hc4.out
 have q5:=Hco.out
 have q4:S1.D.size≤321:=by have:=H0.out;omega
 rintro e w4 (⟨a1,_⟩|⟨a1,a2,_⟩|⟨a1,a2,rfl,S2,G2,hD2,hL2,hS2⟩)
 ·exact absurd aM_ok a1
 ·exact absurd a2 (by omega)
 have hrec2:=HL4.out.recs hD2
 have hsz:=hL2.size_ 0
 rw[hrec2,Hsize.out]at hsz
 have hSZ:=box hsz
 have i2:idP S1.R.fin aM=S1.R.fin:=Hid1.out
 have i1:=Hid0.out
 have hpos:0<S1.R.fin:=by omega
 have hown:=box hL2.owns
 clear hsz hrec2 hS2 hD2 hL2 q2 q3 q4 q5 a2 hap2 happ
 generalize hz1:S1.R.fin=z1 at *
 go_wp2_with fail
 refine hSZ.out.mono ?_
 rintro e w5 ⟨rfl,rfl⟩
 go_wp2_with fail
 go_ret
 exact⟨rfl,hown.out⟩
end Go.Proofs.YtiahjipoofeliaaGreatDoor.tp
