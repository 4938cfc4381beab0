/- Lemmas for this claim. -/
import Derived.Test.YtiahjipoofeliaaGreatDoorPk37
set_option maxRecDepth 100000
namespace Go.Proofs.YtiahjipoofeliaaGreatDoor.tp
open Go.ChangeShapes Go.WideShapes Go.ChangeAt Go.RowKit Go.ChangeMaps Go.MapKept
open rc oc cr dk sg
section
variable {W w w' w2:World} {t t' p n g k sf M:Nat} {S S':TS} {G G':Nat→Prop} {B B2:ByteArray} {A:List Rq} {il lv:Value}
structure Cx (W:World) (t p g k:Nat) (S:TS) (G:Nat→Prop) (B:ByteArray) (A:List Rq) (il lv:Value) (sf M:Nat) (w:World):Prop where
 tp:∃n,Tp W t p n S G w∧n≤2 * k
 down:S.D.down=false
 cap:S.D.cap=((1048576:Nat):Int)
 size:S.D.size≤1345 * k
 files:S.D.files.length≤1345 * k
 names:∀f∈S.D.files,f.name.size≤1000
 fin:S.R.fin≤1345 * k
 start:S.R.start=0
 wk:Wk S.D S.R S.ps sf
 all:PiecesOf S.ps A
 rt:RT W w g B 0 A il lv
 bs:B.size=S.R.fin
 lasts:sf≤S.ps.length∧(Go.Proofs.YtiahjipoofeliaaGreatDoor.tp.recs 0 (S.ps.take sf)).length=M
 mz:∀x∈A,MsgZ x.2.1
 gG:¬G g
 ivG:∀b,il.ownBlock=some b→¬G b
 lvG:∀b,lv.ownBlock=some b→¬G b
 few:A.length≤k
theorem Cx.calm (h:Cx W t p g k S G B A il lv sf M w) (hc:Calm w w'):Cx W t p g k S G B A il lv sf M w':=by
 obtain⟨n,h1,h2⟩:=h.tp
 exact⟨⟨n,h1.calm hc,h2⟩,h.down,h.cap,h.size,h.files,h.names,h.fin,h.start,h.wk,h.all,h.rt.calm hc,h.bs,h.lasts,h.mz,h.gG,h.ivG,h.lvG,h.few⟩
theorem Cx.owns (h:Cx W t p g k S G B A il lv sf M w):Calm W w:=by
 obtain⟨n,h1,_⟩:=h.tp
 exact h1.owns
theorem Cx.ends (h:Cx W t p g k S G B A il lv sf M w):B.size=endL A:=by
 obtain⟨n,h1,_⟩:=h.tp
 rw[h.bs,h1.holds.size,h.start,Nat.zero_add,h.all.ends.1]
theorem Cx.stands (h:Cx W t p g k S G B A il lv sf M w) (hS:Step G w G' w'):RT W w' g B 0 A il lv∧¬G' g∧(∀b,il.ownBlock=some b→¬G' b)∧(∀b,lv.ownBlock=some b→¬G' b):=by
 have hg:=heap_lt h.rt.obj
 refine⟨h.rt.same (fun b hb=>?_),step_not hS hg h.gG,fun b hb=>step_not hS (h.rt.ids.lt b hb).2 (h.ivG b hb),fun b hb=>step_not hS (h.rt.row.lt b hb).2 (h.lvG b hb)⟩
 rcases hb with rfl|hb|hb
 ·exact hS.keeps.block _ hg h.gG
 ·exact hS.keeps.block b (h.rt.ids.lt b hb).2 (h.ivG b hb)
 ·exact hS.keeps.block b (h.rt.row.lt b hb).2 (h.lvG b hb)
theorem Cx.not_new {b:Nat} (h:Cx W t p g k S G B A il lv sf M w) (hb:w.heap.size≤b):¬(G b∨b=g∨il.ownBlock=some b∨lv.ownBlock=some b):=by
 obtain⟨n,h1,_⟩:=h.tp
 rintro(e|e|e|e)
 ·have:=h1.lt b e;omega
 ·have:=heap_lt h.rt.obj;omega
 ·have:=(h.rt.ids.lt b e).2;omega
 ·have:=(h.rt.row.lt b e).2;omega
theorem Cx.new (h:Lt W t p 1048576 0 S G w) (hps:S.ps=[]) (hst:S.R.start=0) :
  Cx W t p w.heap.size 0 S G ⟨#[]⟩ [] (.slice none 0 0) (.slice none 0 0) 0 0 (w.alloc (.cells #[.string ⟨#[]⟩,.int .i64 0,.slice none 0 0,.slice none 0 0] 71)):=by
 obtain⟨n,h1,h2⟩:=h.tp
 have hf:=h.fin
 refine⟨⟨n,h1.calm ((Calm.refl w).alloc _),h2⟩,h.alive.down,h.cap,h.size,by have:=h.files;omega,h.names,h.fin,hst,by rw[hps];exact Wk.bare (List.eq_nil_of_length_eq_zero (by have:=h.files;omega)),by rw[hps];exact .nil,⟨heap_new w _,⟨by rfl,.inl ⟨rfl,rfl⟩⟩,⟨by rfl,.inl ⟨rfl,rfl⟩⟩,h.owns.size,Nat.zero_le _,fun x hx=>(by cases hx)⟩,?_,⟨Nat.zero_le _,rfl⟩,fun x hx=>(by cases hx),fun e=>Nat.lt_irrefl _ (h.lt _ e),fun b hb=>(by cases hb),fun b hb=>(by cases hb),Nat.le_refl _⟩
 show 0=_;omega
theorem Cx.more (h:Cx W t p g k S G B A il lv sf M w):Cx W t p g (k+1) S G B A il lv sf M w:=by
 obtain⟨n,h1,h2⟩:=h.tp
 exact⟨⟨n,h1,by omega⟩,h.down,h.cap,by have:=h.size;omega,by have:=h.files;omega,h.names,by have:=h.fin;omega,h.start,h.wk,h.all,h.rt,h.bs,h.lasts,h.mz,h.gG,h.ivG,h.lvG,by have:=h.few;omega⟩
theorem Cx.end_ok (h:Cx W t p g k S G B A il lv sf M w):B.size%1024=0∨B.size%1024+3≤1024:=by
 obtain⟨n,h1,_⟩:=h.tp
 rw[h.bs]
 exact h1.end_ok
theorem Cx.sync (h:Cx W t p g k S G B A il lv sf M w) (hk:k≤500) (ha:Alive S.D) (hsy:S.R.synced=0):Calls Tryz.prog 23 #[ptrTo t] w fun e w'=>e=.returned (.int .i64 0)∧∃S' G',Cx W t p g k S' G' B A il lv S'.ps.length A.length w'∧Step G w G' w':=by
 obtain⟨n,h1,h2⟩:=h.tp
 have hab:Able S.D 1048576 (1345 * k):=⟨ha,h.cap,h.size,by have:=h.files;rw[List.length_map];omega,fun s hs=>by
  obtain⟨f,hf,rfl⟩:=List.mem_map.1 hs
  exact h.names f hf⟩
 refine(Sync_any w h1 hab (by omega) (by omega)).mono ?_
 rintro e w' ⟨rfl,E,G',h3,h4,h5,h6,h7⟩
 obtain⟨o1,o2,o3,o4⟩:=h.stands h4
 have hfl:E.files.length≤1345 * k:=by have:=h5.few;rwa[List.length_map]at this
 refine⟨rfl,⟨E,S.R.clean,S.ps,S.last⟩,G',⟨⟨n,h3,h2⟩,h5.alive.down,h5.cap,h5.size,hfl,fun f hf=>h5.names f.name (List.mem_map.2 ⟨f,hf,rfl⟩),h.fin,h.start,?_,h.all,o1,h.bs,⟨Nat.le_refl _,?_⟩,h.mz,o2,o3,o4,h.few⟩,h4⟩
 ·have:=h.wk.sync h1.holds hab (hsy.trans h.start.symm)
  rw[h7]at this
  exact this
 ·show (tp.recs 0 (S.ps.take S.ps.length)).length=_
  rw[List.take_length,h.all.ends.2.2.1,List.length_map]
theorem Cx.fuse (h:Cx W t p g k S G B A il lv sf M w) (hk:k≤500) (z:Int) (hz:z≤9223372036854775807):Calls Tryz.prog 24 #[ptrTo p,.int .i64 z] w fun e w'=>e=.returned (.tuple #[])∧∃S' G',Cx W t p g k S' G' B A il lv sf M w'∧Step G w G' w':=by
 obtain⟨n,h1,h2⟩:=h.tp
 obtain⟨r,sb,mb,F,v,iv,hT,hG⟩:=h1.at_
 refine(Fuse_any w z hT.seg.disk.lies).mono ?_
 rintro e w' ⟨rfl,hd,hs⟩
 have hok:DiskOk w' p (S.D.fuse z) F n:=⟨hd,{ hT.seg.disk.good with left:=by show max z (-1)≤_;omega },hT.seg.disk.waits⟩
 obtain⟨s1,s2⟩:=hT.seg.disked hok hs
 have hT2:=hT.step s1 s2
 have hS:=Step.iff (hT.foot_step s2) hG (fun _=>Iff.rfl)
 obtain⟨o1,o2,o3,o4⟩:=h.stands hS
 refine⟨rfl,⟨S.D.fuse z,S.R,S.ps,S.last⟩,_,⟨⟨n,⟨⟨r,sb,mb,F,v,iv,hT2,fun _=>Iff.rfl⟩,holds_eq h1.holds (fun x=>files_bytes rfl x),h1.fit,h1.size,h1.head,h1.born⟩,h2⟩,h.down,h.cap,h.size,h.files,h.names,h.fin,h.start,h.wk.same rfl rfl rfl rfl rfl rfl,h.all,o1,h.bs,h.lasts,h.mz,o2,o3,o4,h.few⟩,hS⟩
structure Cf (W:World) (p g:Nat) (A:List Rq) (il lv:Value) (B:ByteArray) (sf M:Nat) (w:World):Prop where
 at_:∃D R F n ps psA r,DiskOk w p D F n∧n≤2000∧(∀b,F b→W.heap.size≤b)∧(¬F g∧(∀b,il.ownBlock=some b→¬F b)∧∀b,lv.ownBlock=some b→¬F b)∧Holds D R (flat ps)∧FitL 0 ps∧R.size=1024∧R.head=tapeN∧R.start=0∧D.cap=((1048576:Nat):Int)∧D.size≤100000∧D.files.length≤100000∧(∀f∈D.files,f.name.size≤1000)∧Wk D R ps sf ∧
  PiecesOf psA A∧psA=ps++r∧sf≤ps.length∧(Go.Proofs.YtiahjipoofeliaaGreatDoor.tp.recs 0 (ps.take sf)).length=M
 calm:Calm W w
 tab:Tab W
 rt:RT W w g B 0 A il lv
 bs:B.size=endL A
 mz:∀x∈A,MsgZ x.2.1
 few:A.length≤61
theorem Cx.tab (h:Cx W t p g k S G B A il lv sf M w):Tab W:=by
 obtain⟨n,h1,_⟩:=h.tp
 obtain⟨r,sb,mb,F,v,iv,hT,_⟩:=h1.at_
 exact hT.seg.tab
theorem Cx.toCf (h:Cx W t p g k S G B A il lv sf M w) (hk:k≤61):Cf W p g A il lv B sf M w:=by
 obtain⟨n,h1,h2⟩:=h.tp
 obtain⟨r,sb,mb,F,v,iv,hT,hG⟩:=h1.at_
 have hf:=h1.fit
 rw[h.start]at hf
 exact⟨⟨S.D,S.R,F,n,S.ps,S.ps,[],hT.seg.disk,by omega,hT.seg.fW,⟨fun e=>h.gG ((hG _).2 (.inl e)),fun b hb e=>h.ivG b hb ((hG _).2 (.inl e)),fun b hb e=>h.lvG b hb ((hG _).2 (.inl e))⟩,h1.holds,hf,h1.size,h1.head,h.start,h.cap,by have:=h.size;omega,by have:=h.files;omega,h.names,h.wk,h.all,(List.append_nil _).symm,h.lasts⟩,h.owns,h.tab,h.rt,h.ends,h.mz,by have:=h.few;omega⟩
def CxApp (W:World) (t p g k:Nat) (S:TS) (G:Nat→Prop) (m:MsgS) (kv:Value) (B:ByteArray) (A:List Rq) (il lv:Value) (sf M:Nat) (w:World) (e:Ending) (w':World):Prop :=
 Keeps G w w'∧Calm W w'∧RT W w' g B 0 A il lv ∧
 ((e=.returned (.tuple #[.int .i64 (idP B.size m:Int),.int .i64 0])∧∀e2 w2,RAppDone W g B 0 A il lv m kv w' e2 w2→(∃z,e2=.returned (.int .i64 z))∧∃S' G' B' il' lv',(S'.R.synced=S.R.synced∧(Alive S.D→Alive S'.D))∧Cx W t p g (k+1) S' G' B' (A++[(idP B.size m,m,kv)]) il' lv' sf M w2) ∨
 (e=.returned (.tuple #[.int .i64 0,.int .i64 8])∧¬Alive S.D∧∀e2 w2,RAppDone W g B 0 A il lv m kv w' e2 w2→(∃z,e2=.returned (.int .i64 z))∧∃B' il' lv',Cf W p g (A++[(idP B.size m,m,kv)]) il' lv' B' sf M w2))
theorem Cx.append (h:Cx W t p g k S G B A il lv sf M w) (hk:k≤60) (m:MsgS) (kv:Value) (hm:Fair w m kv) (hok:okM m) (hz:MsgZ m) :
  Calls Tryz.prog 26 #[ptrTo t,.agg (msgA m kv)] w (CxApp W t p g k S G m kv B A il lv sf M w):=by
 obtain⟨n,h1,h2⟩:=h.tp
 have hf:=h.fin
 have hsz:=h.size
 have hen:=h.ends
 have hbs:=h.bs
 have hcl:=cost_le S.R.fin m
 refine(Append_any m kv w h1 hm (by omega) (by omega)).mono ?_
 rintro e w' ⟨S',G',h3,h4,h5⟩
 obtain⟨o1,o2,o3,o4⟩:=h.stands h4
 have hmz:∀x∈A++[(idP B.size m,m,kv)],MsgZ x.2.1:=fun x hx=>by
  rcases List.mem_append.1 hx with hx|hx
  ·exact h.mz x hx
  ·rw[List.mem_singleton]at hx;subst hx;exact hz
 have hall:PiecesOf (S.ps++laidP S.R.fin m) (A++[(idP B.size m,m,kv)]):=by
  have:=PiecesOf.snoc (kv:=kv) h.all hok
  rw[←hen]at this
  rw[←hbs]
  exact this
 have hcost:costP B.size m=(flat (laidP B.size m)).length:=by unfold costP;rw[if_pos hok]
 have hW2:∀w2,Keeps (fun b=>b=g∨il.ownBlock=some b∨lv.ownBlock=some b) w' w2→Calm W w2:=fun w2 hk2=>Below.trans h3.owns (hk2.below h3.owns.size (fun b hb=>by
  rcases hb with rfl|hb|hb
  ·exact h.rt.gW
  ·exact(h.rt.ids.lt b hb).1
  ·exact(h.rt.row.lt b hb).1))
 refine⟨h4.keeps,h3.owns,o1,?_⟩
 rcases h5 with ⟨a1,_⟩|⟨_,a2,_⟩|⟨_,_,a3,_⟩|⟨a1,a2,a3,rfl,a4⟩|⟨a1,a2,a3,rfl,a4⟩
 ·exact absurd hok a1
 ·rw[h.down]at a2;cases a2
 ·rw[h.cap]at a3;omega
 ·refine .inr ⟨rfl,a4.dead,?_⟩
  rintro e2 w2 ⟨rfl,B',il',lv',r1,r2,r3,r4,r5⟩
  refine⟨⟨_,rfl⟩,B',il',lv',?_⟩
  have hk3:=h3.keep r3 (fun b hb e=>by
   rcases e with rfl|e|e
   ·exact o2 hb
   ·exact o3 b e hb
   ·exact o4 b e hb) (hW2 w2 r3)
  obtain⟨r,sb,mb,F,v,iv,hT,hG⟩:=hk3.at_
  have hst:S'.R.start=0:=a4.kin.start.trans h.start
  have hfit:=hk3.fit
  rw[hst]at hfit
  obtain⟨rr,hrr,hpre⟩:∃rr,S.ps++laidP S.R.fin m=S'.ps++rr∧∃q,S'.ps=S.ps++q:=by
   rcases a4.ps with e|⟨hg,e⟩
   ·exact⟨laidP S.R.fin m,by rw[e],[],by rw[e,List.append_nil]⟩
   ·refine⟨[.one m],?_,_,e⟩
    rw[e];unfold laidP;rw[if_neg hg,List.append_assoc];rfl
  obtain⟨q,hq⟩:=hpre
  have hl:=h.lasts
  refine⟨⟨S'.D,S'.R,F,n+2,S'.ps,_,rr,hT.seg.disk,by omega,hT.seg.fW,?_,hk3.holds,hfit,hk3.size,hk3.head,hst,a4.cap.trans h.cap,by have:=a4.size;omega,by have:=a4.few;have:=h.files;omega,a4.names h.names,a4.wk sf h.wk,hall,hrr,by rw[hq,List.length_append];omega,?_⟩,hW2 w2 r3,h.tab,r2,?_,hmz,by rw[List.length_append,List.length_singleton];have:=h.few;omega⟩
  ·refine⟨fun e=>o2 ((hG _).2 (.inl e)),fun b hb e=>?_,fun b hb e=>?_⟩
   ·have hg:=(hG _).2 (.inl e)
    rcases r4 b hb with h6|h6
    ·exact o3 b h6 hg
    ·have:=h3.lt b hg;omega
   ·have hg:=(hG _).2 (.inl e)
    rcases r5 b hb with h6|h6
    ·exact o4 b h6 hg
    ·have:=h3.lt b hg;omega
  ·rw[hq,List.take_append_of_le_length hl.1];exact hl.2
  ·rw[r1,endL_snoc,←hen]
 ·refine .inl ⟨by rw[hbs],?_⟩
  rintro e2 w2 ⟨rfl,B',il',lv',r1,r2,r3,r4,r5⟩
  have hst:S'.R.start=S.R.start:=a4.kin.start
  have hl:=h.lasts
  refine⟨⟨_,rfl⟩,S',G',B',il',lv',⟨a4.kin.synced,a4.alive⟩,⟨⟨n+2,h3.keep r3 (fun b hb e=>?_) (hW2 w2 r3),by omega⟩,a4.down,a4.cap.trans h.cap,by have:=a4.size;omega,by have:=a4.few;have:=h.files;omega,a4.names h.names,by have:=a4.fin;omega,hst.trans h.start,a4.wk sf h.wk,by rw[a4.ps];exact hall,r2,by rw[r1,a4.fin,hbs],?_,hmz,o2,?_,?_,?_⟩⟩
  ·rcases e with rfl|e|e
   ·exact o2 hb
   ·exact o3 b e hb
   ·exact o4 b e hb
  ·rw[a4.ps,List.length_append,List.take_append_of_le_length hl.1]
   exact⟨by omega,hl.2⟩
  ·intro b hb e
   rcases r4 b hb with h6|h6
   ·exact o3 b h6 e
   ·have:=h3.lt b e;omega
  ·intro b hb e
   rcases r5 b hb with h6|h6
   ·exact o4 b h6 e
   ·have:=h3.lt b e;omega
  ·rw[List.length_append,List.length_singleton];have:=h.few;omega
end
section
variable {W w w' w2:World} {t t' p n g c k bg:Nat} {S S':TS} {G G':Nat→Prop} {B B2:ByteArray} {A:List Rq} {iv lv iv2 lv2:Value}
abbrev RTc (w':World) (g:Nat) (B:ByteArray) (bg:Nat) (iv lv:Value):Prop :=
 w'.cell? ⟨g,0,none⟩=some (.string B)∧w'.cell? ⟨g,1,none⟩=some (.int .i64 (bg:Int))∧w'.cell? ⟨g,2,none⟩=some iv∧w'.cell? ⟨g,3,none⟩=some lv∧g<w'.heap.size
abbrev RecC (w':World) (b i:Nat) (m:MsgS) (kv:Value):Prop :=
 w'.cell? ⟨b,i * 10,none⟩=some (.int .i64 m.kind)∧w'.cell? ⟨b,i * 10+1,none⟩=some (.int .i64 m.queue)∧w'.cell? ⟨b,i * 10+2,none⟩=some (.int .i64 m.due)∧w'.cell? ⟨b,i * 10+3,none⟩=some (.int .i64 m.retry)∧w'.cell? ⟨b,i * 10+4,none⟩=some (.int .i64 m.ref) ∧
 w'.cell? ⟨b,i * 10+5,none⟩=some (.int .i64 m.born)∧w'.cell? ⟨b,i * 10+6,none⟩=some (.string m.topic)∧w'.cell? ⟨b,i * 10+7,none⟩=some (.string m.tag)∧w'.cell? ⟨b,i * 10+8,none⟩=some (.string m.body)∧w'.cell? ⟨b,i * 10+9,none⟩=some kv∧b<w'.heap.size
theorem RecC.of {b i:Nat} {m:MsgS} {kv:Value} (hb:b<w.heap.size) (h:∀j u,(msgA m kv)[j]? = some u→w.cell? ⟨b,i * 10+j,none⟩=some u) (hc:Calm w w'):RecC w' b i m kv:=by
 have h2:∀j u,(msgA m kv)[j]? = some u→w'.cell? ⟨b,i * 10+j,none⟩=some u:=fun j u hj=>(hc.cell (p:=⟨b,i * 10+j,none⟩) hb).trans (h j u hj)
 exact⟨h2 0 _ rfl,h2 1 _ rfl,h2 2 _ rfl,h2 3 _ rfl,h2 4 _ rfl,h2 5 _ rfl,h2 6 _ rfl,h2 7 _ rfl,h2 8 _ rfl,h2 9 _ rfl,Nat.lt_of_lt_of_le hb hc.size⟩
end
section
variable {W w w' w2:World} {g bg:Nat} {B:ByteArray} {A:List Rq} {iv lv:Value}
theorem RT.firsts (h:RT W w g B bg A iv lv) {n:Nat} (hn:n≤A.length):∃a c,lv=.slice a A.length c∧A.length≤c∧∀W':World,(Instr.slice 55 lv none (some (.int .i64 (n:Int))) none).run Tryz.prog W'=.ok (.slice a n c) W':=by
 have he:Tryz.prog.elem 55=63:=by kernel_rfl
 have hz:∀w:World,(Go.sizeOf 63).run Tryz.prog w=.ok 10 w:=Tryz.sizeOf63
 rcases h.row.2 with ⟨rfl,h2⟩|⟨bb,cap,cur,rfl,h3,h4,h5,_⟩
 ·obtain rfl:n=0:=by omega
  refine⟨none,0,by rw[h2],by omega,fun W'=>?_⟩
  rw[run_slice_h W' 55 _ _ _ (by rw[he];exact Tryz.underlying55) .i64 _ (by omega) (by omega),he,hz]
  simp [Result.andThen,sliced]
 ·refine⟨_,cap,rfl,h5,fun W'=>?_⟩
  rw[run_slice_h W' 55 _ _ _ (by rw[he];exact Tryz.underlying55) .i64 _ (by omega) (by omega),he,hz]
  by_cases h0:cap=0
  ·simp [Result.andThen,sliced,Addr.add,h0]
  ·simp [Result.andThen,sliced,Addr.add,h0]
def CutDone (W:World) (g bg n:Nat) (A:List Rq) (w:World) (e:Ending) (w':World):Prop:=e=.returned (.tuple #[])∧CutAt W w g bg n A w'
set_option maxHeartbeats 16000000 in
theorem rCut_any {n:Nat} (h:RT W w g B bg A iv lv) (hn:n≤A.length) (hl:Laid A) (hok:∀x∈A,okM x.2.1) (hz:∀x∈A,MsgZ x.2.1) (hcW:Calm W w) (hA:A.length<500) :
  Calls Tryz.prog 31 #[ptrTo g,.int .i64 (n:Int)] w (CutDone W g bg n A w):=by
 have H:=box h
 have hnext:=box (fun (i:Nat) (hi:i<A.length) (wr:World) (hr:CutAt W w g bg i A wr)=>hr.next hi hl hok hz h.msgs hcW h.gW hA)
 obtain⟨ia,inn,ic,rfl⟩:=row_slice h.ids
 obtain⟨la,lc,rfl,hlc,hsl⟩:=h.firsts hn
 obtain⟨c0,c1,c2,c3,clt⟩:=h.cells
 have f0:=free_of h.obj 0
 have f2:=free_of h.obj 2
 have f3:=free_of h.obj 3
 have hset:=heap_set (heap_set (heap_set h.obj 0 (.string ⟨#[]⟩)) 2 (.slice none 0 0)) 3 (.slice none 0 0)
 have Hset:=box (show (((w.setCell ⟨g,0,none⟩ (.string ⟨#[]⟩)).setCell ⟨g,2,none⟩ (.slice none 0 0)).setCell ⟨g,3,none⟩ (.slice none 0 0)).heap[g]? = some (.cells #[.string ⟨#[]⟩,.int .i64 (bg:Int),.slice none 0 0,.slice none 0 0] 71 (0,0)) from hset)
 have Hkeep:=box (((((Keeps.refl (· = g) w).setCell (p:=⟨g,0,none⟩) (.inl rfl) (.string ⟨#[]⟩)).setCell (p:=⟨g,2,none⟩) (.inl rfl) (.slice none 0 0)).setCell (p:=⟨g,3,none⟩) (.inl rfl) (.slice none 0 0)))
 clear h hset hl hok hz hcW
 go_enter Tryz.func31,Tryz.ntmps31
 go_wp2_with fail
 obtain⟨w0,hw0⟩:∃w0,((w.setCell ⟨g,0,none⟩ (.string ⟨#[]⟩)).setCell ⟨g,2,none⟩ (.slice none 0 0)).setCell ⟨g,3,none⟩ (.slice none 0 0)=w0:=⟨_,rfl⟩
 rw[hw0]at Hset Hkeep
 rw[hw0]
 have C0:=box (show CutAt W w g bg 0 A w0 from ⟨⟨⟨#[]⟩,.slice none 0 0,.slice none 0 0,⟨Hset.out,⟨by rfl,.inl ⟨rfl,rfl⟩⟩,⟨by rfl,.inl ⟨rfl,rfl⟩⟩,H.out.gW,Nat.zero_le _,fun x hx=>(by cases hx)⟩,rfl,fun b hb=>(by cases hb),fun b hb=>(by cases hb)⟩,Hkeep.out⟩)
 clear hw0 Hset Hkeep c0 c1 c2 c3 clt f0 f2 f3 hsl
 go_loopw [6] (fun iv wr=>∃i:Nat,i≤n∧iv=.int .i64 (i:Int)∧Box (CutAt W w g bg i A wr)) (fun iv _=>n-(intOf iv).toNat)
 case atStart=>exact⟨0,Nat.zero_le _,rfl,C0⟩
 case round =>
  obtain⟨i,hi,rfl,HC⟩:=hrel
  by_cases hin:i<n
  ·have hiA:i<A.length:=by omega
   obtain⟨lb,lcap,hq,_,hlb,hcell⟩:=H.out.rec_ hiA
   simp only[Value.slice.injEq]at hq
   obtain⟨rfl,_,rfl⟩:=hq
   have hne:lb≠g:=fun e=>by
    obtain⟨c,hc⟩:=own_row (g:=lb) H.out.row rfl
    rw[e,H.out.obj]at hc
    simp at hc
   have hblk:=HC.out.keeps.block lb hlb hne
   have hrec:RecC wr lb i A[i].2.1 A[i].2.2:=by
    have h2:∀j u,(msgA A[i].2.1 A[i].2.2)[j]? = some u→wr.cell? ⟨lb,i * 10+j,none⟩=some u:=fun j u hj=>by
     rw[World.cell?_of_block (w:=w) (a:=⟨lb,i * 10+j,none⟩) hblk]
     exact hcell j u hj
    exact⟨h2 0 _ rfl,h2 1 _ rfl,h2 2 _ rfl,h2 3 _ rfl,h2 4 _ rfl,h2 5 _ rfl,h2 6 _ rfl,h2 7 _ rfl,h2 8 _ rfl,h2 9 _ rfl,Nat.lt_of_lt_of_le hlb HC.out.keeps.size⟩
   have hap:=box (hnext.out i hiA wr HC.out)
   have hkeys:=(H.out.msgs _ (List.getElem_mem hiA)).1
   obtain⟨⟨xn,xm,xkv⟩,hx⟩:∃x,A[i]=x:=⟨_,rfl⟩
   rw[hx]at hrec hap hkeys
   simp only at hrec hap hkeys
   obtain⟨xa,xcap,rfl,_⟩:=hkeys.uni
   obtain⟨r0,r1,r2,r3,r4,r5,r6,r7,r8,r9,rlt⟩:=hrec
   have hfew:=H.out.few
   clear hx hcell hblk hne hkeys hlb
   go_wp2_with fail
   refine hap.out.mono ?_
   rintro e w2 ⟨⟨z,rfl⟩,hc2⟩
   have HC2:=box hc2
   clear hc2 hap r0 r1 r2 r3 r4 r5 r6 r7 r8 r9 rlt
   go_wp2_with fail
   go_roundw
   case rel=>exact⟨i+1,by omega,by go_num,HC2⟩
   case measure=>simp [intOf];omega
  ·obtain rfl:i=n:=by omega
   obtain⟨⟨B2,iv2,lv2,h1,h2,h3,h4⟩,h5⟩:=HC.out
   obtain⟨c0,c1,c2,c3,clt⟩:=h1.cells
   have f1:=free_of h1.obj 1
   have hb2:=h1.begun bg
   have HD:=box (show CutAt W w g bg i A (wr.setCell ⟨g,1,none⟩ (.int .i64 (bg:Int))) from ⟨⟨B2,iv2,lv2,hb2,h2,h3,h4⟩,h5.setCell (p:=⟨g,1,none⟩) (.inl rfl) _⟩)
   clear h1 h2 h3 h4 h5 hb2
   go_wp2_with fail
   go_end0
   exact⟨rfl,HD.out⟩
end
section
variable {W w w' w2:World} {t t' p n g k sf M:Nat} {S S':TS} {G G':Nat→Prop} {B B2:ByteArray} {A:List Rq} {il lv:Value}
structure Cg (W:World) (p g:Nat) (A:List Rq) (il lv:Value) (B:ByteArray) (M:Nat) (w:World):Prop where
 at_:∃D F E R1 ps1 psA r tl,DiskOk w p D F 0∧(∀b,F b→W.heap.size≤b)∧(¬F g∧(∀b,il.ownBlock=some b→¬F b)∧∀b,lv.ownBlock=some b→¬F b)∧D.files.length≤100000∧(∀f∈D.files,f.name.size≤1000)∧openD D tapeN 1024=(0,E,R1)∧Holds E R1 (flat ps1++tl)∧Able E 1048576 100000∧R1.start=0∧R1.head=tapeN∧R1.size=1024∧R1.synced=0∧E.waits=[]∧NoPc (flat ps1).length tl∧FitL 0 ps1 ∧
  PiecesOf psA A∧psA=ps1++r∧M≤(Go.Proofs.YtiahjipoofeliaaGreatDoor.tp.recs 0 ps1).length
 calm:Calm W w
 tab:Tab W
 rt:RT W w g B 0 A il lv
 bs:B.size=endL A
 mz:∀x∈A,MsgZ x.2.1
 few:A.length≤61
structure Co (W:World) (t p g:Nat) (S:TS) (G:Nat→Prop) (A:List Rq) (il lv:Value) (B:ByteArray) (M:Nat) (w:World):Prop where
 tp:Tp W t p 0 S G w
 able:Able S.D 1048576 100000
 start:S.R.start=0
 synced:S.R.synced=S.R.fin
 waits:S.D.waits=[]
 part:∃psA r,PiecesOf psA A∧psA=S.ps++r
 least:M≤S.recs.length
 gG:¬G g
 ivG:∀b,il.ownBlock=some b→¬G b
 lvG:∀b,lv.ownBlock=some b→¬G b
 calm:Calm W w
 tab:Tab W
 rt:RT W w g B 0 A il lv
 bs:B.size=endL A
 mz:∀x∈A,MsgZ x.2.1
 few:A.length≤61
theorem Cg.open_ (h:Cg W p g A il lv B M w):Calls Tryz.prog 22 #[ptrTo p] w fun e w'=>∃t S G,e=.returned (.tuple #[ptrTo t,.int .i64 0])∧Co W t p g S G A il lv B M w':=by
 obtain⟨D,F,E,R1,ps1,psA,r,tl,h1,h2,⟨f1,f2,f3⟩,h4,h5,h6,h7,h8,h9,h10,h11,h12,h13,h14,h15,h16,h17,h18⟩:=h.at_
 have hfew:ps1.length≤1000000:=by
  have h19:=h16.ends.1
  rw[h17,flat_append,List.length_append]at h19
  have:=flat_least ps1 0 h15
  have:=endL_le A h16.ends.2.1
  have:=h.few
  omega
 refine(Open_any (c:=1048576) (m:=100000) w h1 h.tab h.calm h2 (by omega) (fun f hf=>by have:=h5 f hf;omega) (by omega) h6 h7 h8 h10 h11 (by rw[h12,h9]) (by rw[h9];exact h15) (by rw[h9,Nat.zero_add];exact h14) hfew).mono ?_
 rintro e w' ⟨t',D',R',last,G',rfl,_,hO⟩
 have hg:=heap_lt h.rt.obj
 have hst:R'.start=0:=hO.start.trans h9
 refine⟨t',⟨D',R',ps1,last⟩,G',rfl,⟨hO.tp,hO.able,hst,hO.synced,hO.waits h13,⟨psA,r,h16,h17⟩,?_,step_not hO.step hg f1,fun b hb=>step_not hO.step (h.rt.ids.lt b hb).2 (f2 b hb),fun b hb=>step_not hO.step (h.rt.row.lt b hb).2 (f3 b hb),hO.tp.owns,h.tab,?_,h.bs,h.mz,h.few⟩⟩
 ·show M≤(Go.Proofs.YtiahjipoofeliaaGreatDoor.tp.recs R'.start ps1).length
  rw[hst];exact h18
 ·exact h.rt.same (fun b hb=>by
   rcases hb with rfl|hb|hb
   ·exact hO.step.keeps.block _ hg f1
   ·exact hO.step.keeps.block b (h.rt.ids.lt b hb).2 (f2 b hb)
   ·exact hO.step.keeps.block b (h.rt.row.lt b hb).2 (f3 b hb))
end
section
variable {W w w' w2:World} {t t' p n g k sf M:Nat} {S S':TS} {G G':Nat→Prop} {B B2:ByteArray} {A:List Rq} {il lv:Value}
theorem Co.first(h:Co W t p g S G A il lv B M w):∃n,n≤A.length∧M≤n∧S.recs=(A.take n).map numR∧(S.R.fin=endL (A.take n)∨(endL (A.take n)<S.R.fin∧S.R.fin%1024=0))∧(∀x∈A,okM x.2.1)∧Laid A:=by
 obtain⟨psA,r,h1,h2⟩:=h.part
 obtain⟨n,n1,n2,n3⟩:=h1.first S.ps r h2
 have hs:=h.tp.holds.size
 rw[h.start,Nat.zero_add]at hs
 have hr:S.recs=(A.take n).map numR:=by
  show Go.Proofs.YtiahjipoofeliaaGreatDoor.tp.recs S.R.start S.ps=_
  rw[h.start];exact n2
 refine⟨n,n1,?_,hr,by rw[hs];exact n3,h1.ends.2.1,h1.ends.2.2.2⟩
 have:=h.least
 rw[hr,List.length_map,List.length_take]at this
 omega
theorem Co.small (h:Co W t p g S G A il lv B M w):S.R.fin≤100000:=by
 obtain⟨psA,r,h1,h2⟩:=h.part
 have hs:=h.tp.holds.size
 rw[h.start,Nat.zero_add]at hs
 have h3:=h1.ends.1
 rw[h2,flat_append,List.length_append]at h3
 have:=endL_le A h1.ends.2.1
 have:=h.few
 omega
theorem Co.ids_ (h:Co W t p g S G A il lv B M w):Calls Tryz.prog 29 #[ptrTo t,.int .i64 0] w fun e w'=>∃x y,e=.returned (.slice x S.recs.length y)∧IntsAt w' (.slice x S.recs.length y) (S.recs.map fun x=>(x.1:Int))∧Calm w w':=by
 have hf:=h.small
 have hfew:=h.tp.few.2
 refine(Ids_any 0 w h.tp (by omega)).mono ?_
 rintro e w' ⟨sa,cap,rfl,h2,h3⟩
 have hall:fromL S.recs 0=S.recs:=List.filter_eq_self.2 (fun x _=>decide_eq_true (Int.natCast_nonneg _))
 rw[hall]at h2 ⊢
 have h4:=own_ints (l:=S.recs.map (·.1)) (by rw[List.length_map];exact h2) (by rw[List.length_map];omega)
 rw[List.map_map]at h4
 exact⟨sa,cap,rfl,h4,h3⟩
theorem Co.end_ (h:Co W t p g S G A il lv B M w):Calls Tryz.prog 30 #[ptrTo t] w fun e w'=>e=.returned (.int .i64 (S.R.fin:Int))∧w=w':=End_any w h.tp
theorem Co.calm_ (h:Co W t p g S G A il lv B M w) (hc:Calm w w'):Co W t p g S G A il lv B M w' :=
 ⟨h.tp.calm hc,h.able,h.start,h.synced,h.waits,h.part,h.least,h.gG,h.ivG,h.lvG,h.calm.trans hc,h.tab,h.rt.calm hc,h.bs,h.mz,h.few⟩
theorem Co.cut (h:Co W t p g S G A il lv B M w) {n:Nat} (hn:n≤A.length):Calls Tryz.prog 31 #[ptrTo g,.int .i64 (n:Int)] w fun e w'=>e=.returned (.tuple #[])∧∃B' il' lv',Co W t p g S G A il lv B M w∧RT W w' g B' 0 (A.take n) il' lv'∧B'.size=endL (A.take n)∧Keeps (· = g) w w'∧(∀b,il'.ownBlock=some b→w.heap.size≤b)∧∀b,lv'.ownBlock=some b→w.heap.size≤b:=by
 obtain⟨_,_,_,_,_,hok,hl⟩:=h.first
 refine(rCut_any h.rt hn hl hok h.mz h.calm (by have:=h.few;omega)).mono ?_
 rintro e w' ⟨rfl,⟨B',il',lv',c1,c2,c3,c4⟩,c5⟩
 exact⟨rfl,B',il',lv',h,c1,c2,c5,c3,c4⟩
end
section
variable {W w w' w2:World} {t t' p n g k sf M:Nat} {S S':TS} {G G':Nat→Prop} {B B2:ByteArray} {A A0:List Rq} {il lv:Value} {ps:List Pc}
structure Cy (W:World) (x y p g:Nat) (ps:List Pc) (A:List Rq) (il lv:Value) (B:ByteArray) (w:World):Prop where
 x:∃S G,Tp W x p 0 S G w∧Able S.D 1048576 100000∧S.R.start=0∧S.ps=ps
 y:∃S G,Tp W y p 0 S G w∧Able S.D 1048576 100000∧S.R.start=0∧S.ps=ps∧S.R.synced≤S.R.fin∧S.D.waits=[]∧¬G g∧(∀b,il.ownBlock=some b→¬G b)∧∀b,lv.ownBlock=some b→¬G b
 rt:RT W w g B 0 A il lv
theorem Cy.calm (h:Cy W t t' p g ps A il lv B w) (hc:Calm w w'):Cy W t t' p g ps A il lv B w':=by
 obtain⟨⟨S,G,a1,a2⟩,⟨S',G',b1,b2⟩,c⟩:=h
 exact⟨⟨S,G,a1.calm hc,a2⟩,⟨S',G',b1.calm hc,b2⟩,c.calm hc⟩
theorem open_again {B':ByteArray} {il' lv':Value} {A':List Rq} (hT:Tp W t p 0 S G w) (hab:Able S.D 1048576 100000) (hst:S.R.start=0) (hwt:S.D.waits=[]) (hsm:S.R.fin≤100000) (htb:Tab W) (hr:RT W w g B' 0 A' il' lv') (g1:¬G g) (g2:∀b,il'.ownBlock=some b→¬G b) (g3:∀b,lv'.ownBlock=some b→¬G b) :
  Calls Tryz.prog 22 #[ptrTo p] w fun e w'=>∃y,e=.returned (.tuple #[ptrTo y,.int .i64 0])∧Cy W t y p g S.ps A' il' lv' B' w':=by
 obtain⟨r,sb,mb,F,v,iv,hI,hG⟩:=hT.at_
 have ho:=hT.holds.open hab.alive hI.seg.disk.form
 rw[hT.head,hT.size]at ho
 have hfew:=hT.few
 refine(Open_any (ps:=S.ps) (tl:=[]) (E:=S.D) (R:=S.R.anew) (c:=1048576) (m:=100000) w hI.seg.disk htb hI.seg.calm hI.seg.fW (by omega) hab.file (by have:=hab.files;omega) ho (by rw[List.append_nil];exact hT.holds.anew) hab hT.head hT.size rfl hT.fit (.inl rfl) (by omega)).mono ?_
 rintro e w' ⟨y,D',R',last,G',rfl,_,hO⟩
 have hS:Step G w G' w':=⟨hO.step.keeps.mono (fun b _ hb=>(hG b).2 (.inl hb)),fun b hb=>by
  rcases hO.step.foot b hb with h2|h2
  ·exact .inl ((hG b).2 (.inl h2))
  ·exact .inr h2⟩
 have hby:=hO.same (show S.R.anew.start+(flat S.ps).length=S.R.anew.fin from hT.holds.size.symm)
 obtain⟨ry,sby,mby,Fy,vy,ivy,hIy,hGy⟩:=hO.tp.at_
 have hSF:Step F w Fy w':=⟨hO.step.keeps,fun b hb=>hO.step.foot b ((hGy b).2 (.inl hb))⟩
 obtain⟨s1,s2⟩:=hI.seg.disked hIy.seg.disk hSF
 have hx:Tp W t p 0 ⟨D',S.R,S.ps,S.last⟩ (tfoot t r sb mb Fy v iv) w':=⟨⟨r,sb,mb,Fy,v,iv,hI.step s1 s2,fun _=>Iff.rfl⟩,holds_eq hT.holds hby,hT.fit,hT.size,hT.head,hT.born⟩
 have hg:=heap_lt hr.obj
 refine⟨y,rfl,⟨⟨_,_,hx,hO.able,hst,rfl⟩,⟨_,G',hO.tp,hO.able,hO.start.trans hst,rfl,Nat.le_of_eq hO.synced,hO.waits hwt,step_not hS hg g1,fun b hb=>step_not hS (hr.ids.lt b hb).2 (g2 b hb),fun b hb=>step_not hS (hr.row.lt b hb).2 (g3 b hb)⟩,?_⟩⟩
 exact hr.same (fun b hb=>by
  rcases hb with rfl|hb|hb
  ·exact hS.keeps.block _ hg g1
  ·exact hS.keeps.block b (hr.ids.lt b hb).2 (g2 b hb)
  ·exact hS.keeps.block b (hr.row.lt b hb).2 (g3 b hb))
theorem tape_ids (hT:Tp W t p 0 S G w) (hst:S.R.start=0) (hsm:S.R.fin≤1000000):Calls Tryz.prog 29 #[ptrTo t,.int .i64 0] w fun e w'=>∃x y,e=.returned (.slice x (Go.Proofs.YtiahjipoofeliaaGreatDoor.tp.recs 0 S.ps).length y)∧IntsAt w' (.slice x (Go.Proofs.YtiahjipoofeliaaGreatDoor.tp.recs 0 S.ps).length y) ((Go.Proofs.YtiahjipoofeliaaGreatDoor.tp.recs 0 S.ps).map fun x=>(x.1:Int))∧Calm w w':=by
 have hfew:=hT.few.2
 have hr:S.recs=Go.Proofs.YtiahjipoofeliaaGreatDoor.tp.recs 0 S.ps:=by show Go.Proofs.YtiahjipoofeliaaGreatDoor.tp.recs S.R.start S.ps=_;rw[hst]
 refine(Ids_any 0 w hT hsm).mono ?_
 rintro e w' ⟨sa,cap,rfl,h2,h3⟩
 have hall:fromL S.recs 0=S.recs:=List.filter_eq_self.2 (fun x _=>decide_eq_true (Int.natCast_nonneg _))
 rw[hall]at h2 ⊢
 have h4:=own_ints (l:=S.recs.map (·.1)) (by rw[List.length_map];exact h2) (by rw[List.length_map];omega)
 rw[List.map_map]at h4
 rw[hr]at h4 ⊢
 exact⟨sa,cap,rfl,h4,h3⟩
end
section
variable {W w w' w2:World} {t t' p n g k sf M:Nat} {S S':TS} {G G':Nat→Prop} {B B2:ByteArray} {A A0:List Rq} {il lv:Value} {ps:List Pc}
def IdsDone (A:List Rq) (w:World) (e:Ending) (w':World):Prop:=∃x y,e=.returned (.slice x A.length y)∧IntsAt w' (.slice x A.length y) (A.map fun x=>(x.1:Int))∧Calm w w'
theorem ids_done (hr:Go.Proofs.YtiahjipoofeliaaGreatDoor.tp.recs 0 ps=A.map numR) (h:Calls Tryz.prog 29 #[ptrTo t,.int .i64 0] w fun e w'=>∃x y,e=.returned (.slice x (Go.Proofs.YtiahjipoofeliaaGreatDoor.tp.recs 0 ps).length y)∧IntsAt w' (.slice x (Go.Proofs.YtiahjipoofeliaaGreatDoor.tp.recs 0 ps).length y) ((Go.Proofs.YtiahjipoofeliaaGreatDoor.tp.recs 0 ps).map fun x=>(x.1:Int))∧Calm w w') :
  Calls Tryz.prog 29 #[ptrTo t,.int .i64 0] w (IdsDone A w):=by
 rw[hr,List.length_map,List.map_map]at h
 exact h
theorem Co.ids0 (h:Co W t p g S G A il lv B M w) (hr:S.recs=A0.map numR):Calls Tryz.prog 29 #[ptrTo t,.int .i64 0] w (IdsDone A0 w):=by
 have h1:=h.ids_
 rw[hr,List.length_map,List.map_map]at h1
 exact h1
theorem Cy.xids (h:Cy W t t' p g ps A il lv B w) (hsm:(flat ps).length≤100000) (hr:Go.Proofs.YtiahjipoofeliaaGreatDoor.tp.recs 0 ps=A.map numR):Calls Tryz.prog 29 #[ptrTo t,.int .i64 0] w (IdsDone A w):=by
 obtain⟨S,G,h1,_,h3,rfl⟩:=h.x
 have hs:=h1.holds.size
 exact ids_done hr (tape_ids h1 h3 (by omega))
theorem Cy.yids (h:Cy W t t' p g ps A il lv B w) (hsm:(flat ps).length≤100000) (hr:Go.Proofs.YtiahjipoofeliaaGreatDoor.tp.recs 0 ps=A.map numR):Calls Tryz.prog 29 #[ptrTo t',.int .i64 0] w (IdsDone A w):=by
 obtain⟨S,G,h1,_,h3,rfl,_⟩:=h.y
 have hs:=h1.holds.size
 exact ids_done hr (tape_ids h1 h3 (by omega))
theorem Cy.yend (h:Cy W t t' p g ps A il lv B w) {e:Nat} (he:(flat ps).length=e):Calls Tryz.prog 30 #[ptrTo t'] w fun e' w'=>e'=.returned (.int .i64 (e:Int))∧w=w':=by
 obtain⟨S,G,h1,_,h3,rfl,_⟩:=h.y
 have h2:=End_any w h1
 rw[h1.holds.size,h3,Nat.zero_add,he]at h2
 exact h2
theorem Cy.waits (h:Cy W t t' p g ps A il lv B w):Calls Tryz.prog 33 #[ptrTo p] w fun e w'=>e=.returned (.int .i64 0)∧w=w':=by
 obtain⟨S,G,h1,_,_,_,_,h6,_⟩:=h.y
 obtain⟨r,sb,mb,F,v,iv,hI,hG⟩:=h1.at_
 have h2:=Waits_any w hI.seg.disk.lies
 rw[h6]at h2
 exact h2
theorem Cy.reads (h:Cy W t t' p g ps A il lv B w) (hr:Go.Proofs.YtiahjipoofeliaaGreatDoor.tp.recs 0 ps=A.map numR) {i:Nat} (hi:i<A.length):Calls Tryz.prog 34 #[ptrTo t',.int .i64 (A[i].1:Int)] w fun e w'=>Calm w w'∧∃kv,e=.returned (.tuple #[.agg (msgA A[i].2.1 kv),.int .i64 0])∧StrsAt w' kv A[i].2.1.keys:=by
 obtain⟨S,G,h1,h2,h3,rfl,_⟩:=h.y
 have hrs:S.recs=A.map numR:=by rw[←hr];show Go.Proofs.YtiahjipoofeliaaGreatDoor.tp.recs S.R.start S.ps=_;rw[h3]
 have hm:numR A[i]∈S.recs:=by rw[hrs];exact List.mem_map.2 ⟨A[i],List.getElem_mem hi,rfl⟩
 have hri:=h1.rises
 refine(Read_any (A[i].1:Int) w h1 h2.alive).mono ?_
 rintro e w' ⟨hc,⟨q1,q2,_⟩|⟨_,q2,_⟩|⟨y,q1,q2,kv,rfl,q3⟩⟩
 ·rw[h3]at q2;omega
 ·exact absurd rfl (q2 _ hm)
 ·have h4:=rec_mem hri q1
  have h5:=rec_mem hri hm
  rw[q2]at h4
  have h6:y=numR A[i]:=Option.some.inj (h4.symm.trans h5)
  subst h6
  exact⟨hc,kv,rfl,q3⟩
theorem Cy.same_ (h:Cy W t t' p g ps A il lv B w) {x:Rq} (hx:x∈A) {kv:Value} (hw:Calm W w') (hk:StrsAt w' kv x.2.1.keys):Calls Tryz.prog 35 #[.agg (msgA x.2.1 kv),.agg (msgA x.2.1 x.2.2)] w' fun e w2=>e=.returned (.bool true)∧Calm w' w2:=by
 obtain⟨h1,h2⟩:=h.rt.msgs x hx
 refine(rSame_any x.2.1 x.2.1 kv x.2.2 w' hk (h1.calm hw) h2 h2).mono ?_
 rintro e w2 ⟨rfl,h3⟩
 exact⟨by rw[decide_eq_true rfl],h3⟩
theorem Cy.owns (h:Cy W t t' p g ps A il lv B w):Calm W w:=by
 obtain⟨S,G,h1,_⟩:=h.y
 exact h1.owns
structure Cz1 (W:World) (y p g id:Nat) (m:MsgS) (A:List Rq) (il lv:Value) (B:ByteArray) (w:World):Prop where
 y:∃S G,Tp W y p 2 S G w∧Alive S.D∧S.R.start=0∧∃L,S.recs=L++[(id,m)]
 rt:RT W w g B 0 A il lv
theorem Cz1.calm {id:Nat} {m:MsgS} (h:Cz1 W t' p g id m A il lv B w) (hc:Calm w w'):Cz1 W t' p g id m A il lv B w':=by
 obtain⟨⟨S,G,a1,a2⟩,c⟩:=h
 exact⟨⟨S,G,a1.calm hc,a2⟩,c.calm hc⟩
theorem Cz1.owns {id:Nat} {m:MsgS} (h:Cz1 W t' p g id m A il lv B w):Calm W w:=by
 obtain⟨S,G,h1,_⟩:=h.y
 exact h1.owns
theorem Cy.append (h:Cy W t t' p g ps A il lv B w) (hsm:(flat ps).length≤100000) (m:MsgS) (kv:Value) (hm:Fair w m kv) (hok:okM m) :
  Calls Tryz.prog 26 #[ptrTo t',.agg (msgA m kv)] w fun e w'=>e=.returned (.tuple #[.int .i64 (idP (flat ps).length m:Int),.int .i64 0])∧Cz1 W t' p g (idP (flat ps).length m) m A il lv B w':=by
 obtain⟨S,G,h1,h2,h3,rfl,h5,h6,g1,g2,g3⟩:=h.y
 have hsz:=h1.holds.size
 have hcl:=cost_le S.R.fin m
 have hfe:(flat S.ps).length=S.R.fin:=by omega
 have hrm:=h2.size
 refine(Append_any m kv w h1 hm (by omega) (by omega)).mono ?_
 rintro e w' ⟨S',G',q3,q4,q5⟩
 have hg:=heap_lt h.rt.obj
 rcases q5 with ⟨a1,_⟩|⟨_,a2,_⟩|⟨_,_,a3,_⟩|⟨a1,a2,a3,rfl,a4⟩|⟨a1,a2,a3,rfl,a4⟩
 ·exact absurd hok a1
 ·rw[h2.alive.down]at a2;cases a2
 ·rw[h2.cap]at a3;omega
 ·exact absurd h2.alive a4.dead
 ·rw[hfe]
  refine⟨rfl,⟨S',G',q3,a4.alive h2.alive,a4.kin.start.trans h3,S.recs,?_⟩,h.rt.same (fun b hb=>?_)⟩
  ·show Go.Proofs.YtiahjipoofeliaaGreatDoor.tp.recs S'.R.start S'.ps=Go.Proofs.YtiahjipoofeliaaGreatDoor.tp.recs S.R.start S.ps++_
   rw[a4.ps,a4.kin.start,recs_append,←hsz,laid_recs h1.end_ok]
  ·rcases hb with rfl|hb|hb
   ·exact q4.keeps.block _ hg g1
   ·exact q4.keeps.block b (h.rt.ids.lt b hb).2 (g2 b hb)
   ·exact q4.keeps.block b (h.rt.row.lt b hb).2 (g3 b hb)
theorem Cz1.reads {id:Nat} {m:MsgS} (h:Cz1 W t' p g id m A il lv B w):Calls Tryz.prog 34 #[ptrTo t',.int .i64 (id:Int)] w fun e w'=>Calm w w'∧∃kv,e=.returned (.tuple #[.agg (msgA m kv),.int .i64 0])∧StrsAt w' kv m.keys∧∀a n c,kv=.slice (some a) n c→0<n→w.heap.size≤a.block:=by
 obtain⟨S,G,h1,h2,h0,L,h3⟩:=h.y
 have hm:(id,m)∈S.recs:=by rw[h3];exact List.mem_append_right _ (List.mem_singleton.2 rfl)
 have hri:=h1.rises
 refine(Read_new (id:Int) w h1 h2).mono ?_
 rintro e w' ⟨hc,⟨q1,q2,_⟩|⟨_,q2,_⟩|⟨y,q1,q2,kv,rfl,q3⟩⟩
 ·rw[h0]at q2;omega
 ·exact absurd rfl (q2 _ hm)
 ·have h4:=rec_mem hri q1
  have h5:=rec_mem hri hm
  rw[q2]at h4
  have h6:y=(id,m):=Option.some.inj (h4.symm.trans h5)
  subst h6
  exact⟨hc,kv,rfl,q3⟩
theorem RT.id_at (h:RT W w g B 0 A il lv) {i:Nat} (hi:i<A.length):∃b off cap,il=.slice (some ⟨b,off,Option.none⟩) A.length cap∧b<w.heap.size∧w.cell? ⟨b,off+i,Option.none⟩=some (.int .i64 (A[i].1:Int)):=by
 have h1:=h.ids
 have hf:=h.few
 have h2:=own_ints (l:=A.map (·.1)) (by rw[List.length_map];exact h1) (by rw[List.length_map];omega)
 rw[List.map_map]at h2
 obtain⟨qa,qc,rfl,_,hcell⟩:=h2
 obtain⟨qb,qo,rfl,hqb,d0⟩:=hcell i (by rw[List.length_map];exact hi)
 rw[List.getElem_map]at d0
 exact⟨qb,qo,qc,by rw[List.length_map],hqb,d0⟩
theorem Co.cuts (h:Co W t p g S G A il lv B M w) {A0:List Rq} {n:Nat} (hn:n≤A.length) (h0:A.take n=A0):Calls Tryz.prog 31 #[ptrTo g,.int .i64 (A0.length:Int)] w fun e w'=>e=.returned (.tuple #[])∧∃B' il' lv',Tp W t p 0 S G w'∧Calm W w'∧RT W w' g B' 0 A0 il' lv'∧B'.size=endL A0∧¬G g∧(∀b,il'.ownBlock=some b→¬G b)∧∀b,lv'.ownBlock=some b→¬G b:=by
 have hl:A0.length=n:=by rw[←h0,List.length_take];omega
 rw[hl]
 refine(h.cut hn).mono ?_
 rintro e w' ⟨rfl,B',il',lv',h1,h2,h3,h4,h5,h6⟩
 rw[h0]at h2 h3
 have hc:Calm W w':=Below.trans h.calm (h4.below h.calm.size (fun b e=>e ▸ h.rt.gW))
 exact⟨rfl,B',il',lv',h.tp.keep h4 (fun b hb e=>h.gG (e ▸ hb)) hc,hc,h2,h3,h.gG,fun b hb hG=>(by have:=h5 b hb;have:=h.tp.lt b hG;omega),fun b hb hG=>(by have:=h6 b hb;have:=h.tp.lt b hG;omega)⟩
theorem id_at {e:Nat} {m:MsgS} (hok:okM m) (he:e%1024=0):idP e m=e:=by
 have hb:=recB_bounds hok.1 hok.2
 unfold idP
 rw[if_pos (by unfold goesIn roomAt;omega)]
end
section
variable {W w w' w2:World} {t t' p n g k sf M:Nat} {S S':TS} {G G':Nat→Prop} {B B2:ByteArray} {A:List Rq} {il lv:Value}
theorem Cf.crash (h:Cf W p g A il lv B sf M w) (ka:Option Addr) (kcap:Nat) (keep:List Bool) (lack:Int) (hr:RowsAt BoolR 1 W (.slice ka keep.length kcap) keep) (hkl:keep.length≤1000000) :
  Calls Tryz.prog 28 #[ptrTo p,.agg #[.slice ka keep.length kcap,.int .i64 lack]] w fun e w'=>e=.returned (.tuple #[])∧Cg W p g A il lv B M w':=by
 obtain⟨D,R,F,n,ps,psA,r,h1,h2,h3,h4,h5,h6,h7,h8,h9,h10,h11,h12,h13,h14,h15,h16,h17,h18⟩:=h.at_
 have ho:Owns W w F:=⟨h.calm,h3⟩
 obtain⟨a,cap,e,hc,hb⟩:=RowsAt_bools (hr.calm BoolR.lasts ho.calm)
 cases e
 refine(Crash_ok ka kcap keep lack w h1 (by omega) hb (ho.apart hr) hc hkl).mono ?_
 rintro e w' ⟨rfl,F',hd,hs⟩
 have ho':=ho.step hs
 have hst:FitL R.start ps:=by rw[h9];exact h6
 obtain⟨E,R1,ps1,ps2,tl,e1,e2,e3,e4,e5,e6,e7,e8,e9,e10,e11⟩:=crash_tape (c:=1048576) (m:=100000) h14 h5 hst h7 h9 h1.form h1.good h10 h11 (by rw[List.length_map];exact h12) (fun s hs=>by
  obtain⟨f,hf,rfl⟩:=List.mem_map.1 hs
  exact h13 f hf) keep lack
 rw[h8]at e1 e7
 have hnames:(D.crashed keep lack).files.map (·.name)=D.files.map (·.name):=crashed_names keep lack
 have hg:=heap_lt h.rt.obj
 obtain⟨f1,f2,f3⟩:=h4
 have hf1:FitL 0 ps1:=by rw[e2,fitL_append]at h6;exact h6.1
 refine⟨rfl,⟨_,F',E,R1,ps1,psA,ps2++r,tl,hd,ho'.foot,⟨step_not hs hg f1,fun b hb=>step_not hs (h.rt.ids.lt b hb).2 (f2 b hb),fun b hb=>step_not hs (h.rt.row.lt b hb).2 (f3 b hb)⟩,?_,?_,e1,e4,e5,e6,e7,e8,e9,e10,e11,hf1,h15,by rw[h16,e2,List.append_assoc],?_⟩,ho'.calm,h.tab,?_,h.bs,h.mz,h.few⟩
 ·have:=congrArg List.length hnames
  rw[List.length_map,List.length_map]at this
  omega
 ·intro f hf
  have:f.name∈D.files.map (·.name):=by rw[←hnames];exact List.mem_map.2 ⟨f,hf,rfl⟩
  obtain⟨g0,hg0,e0⟩:=List.mem_map.1 this
  rw[←e0]
  exact h13 g0 hg0
 ·rw[←h18,e2,List.take_append_of_le_length e3]
  obtain⟨q,hq⟩:∃q,ps1=ps1.take sf++q:=⟨ps1.drop sf,(List.take_append_drop _ _).symm⟩
  have:(Go.Proofs.YtiahjipoofeliaaGreatDoor.tp.recs 0 ps1).length=(Go.Proofs.YtiahjipoofeliaaGreatDoor.tp.recs 0 (ps1.take sf++q)).length:=congrArg (fun x=>(Go.Proofs.YtiahjipoofeliaaGreatDoor.tp.recs 0 x).length) hq
  rw[recs_append,List.length_append]at this
  omega
 ·exact h.rt.same (fun b hb=>by
   rcases hb with rfl|hb|hb
   ·exact hs.keeps.block _ hg f1
   ·exact hs.keeps.block b (h.rt.ids.lt b hb).2 (f2 b hb)
   ·exact hs.keeps.block b (h.rt.row.lt b hb).2 (f3 b hb))
end
end Go.Proofs.YtiahjipoofeliaaGreatDoor.tp

namespace Go.Proofs.YtiahjipoofeliaaGreatDoor.tp
open Go.ChangeShapes Go.WideShapes Go.ChangeAt Go.RowKit
open rc
structure CrashS where
 l:List MsgS
 sy:Int
 fu:Int
 keep:List Bool
 lack:Int
abbrev crashA (y:CrashS) (lv kv:Value):Array Value:=#[lv,.int .u8 y.sy,.int .i64 y.fu,kv,.int .i64 y.lack]
structure CrashIn (w:World) (y:CrashS) (lv kv:Value):Prop where
 l:RowsAt MsgR 10 w lv y.l
 keep:RowsAt BoolR 1 w kv y.keep
 sy:0≤y.sy∧y.sy≤255
 fu : -9223372036854775808≤y.fu∧y.fu≤9223372036854775807
def CrashR:Reads CrashS:=fun w cs y=>∃lv kv,cs=(crashA y lv kv).toList∧CrashIn w y lv kv
theorem opens_crash:Opens Tryz.prog 60 CrashR:=fun H enc w base sp held fuel cs x h=>by
 obtain⟨xs,n,_,_,hlen,hxl,hg⟩:=DataW.trod_struct Tryz.underlying60 h
 rw[show Tryz.prog.cellsOf 60=5 by kernel_rfl]at hlen
 match cs,hlen with
 | [c0,c1,c2,c3,c4],_ =>
  simp only[List.size_toArray,List.length_cons,List.length_nil]at hxl
  have g0:=hg 0 _ rfl
  have g1:=hg 1 _ rfl
  have g2:=hg 2 _ rfl
  have g3:=hg 3 _ rfl
  clear hg
  rw[List.getElem?_eq_getElem (by omega)]at g0 g1 g2 g3
  obtain⟨l,lv,hlv,hlr⟩:=opens_slice (c:=10) Tryz.underlying55 (by kernel_rfl) (by decide) opens_msg _ _ _ _ _ _ _ _ _ g0
  obtain⟨sy,hsy,hs1,hs2⟩:=opens_int Tryz.underlying5 _ _ _ _ _ _ _ _ _ g1
  obtain⟨fu,hfu,hf1,hf2⟩:=opens_int Tryz.underlying3 _ _ _ _ _ _ _ _ _ g2
  obtain⟨ys,n2,_,_,hlen2,hyl,hg2⟩:=DataW.trod_struct Tryz.underlying58 g3
  have n1:Tryz.prog.cellsOf 3=1:=by kernel_rfl
  have n3:Tryz.prog.cellsOf 5=1:=by kernel_rfl
  have n4:Tryz.prog.cellsOf 56=1:=by kernel_rfl
  have n5:Tryz.prog.cellsOf 55=1:=by kernel_rfl
  have n6:Tryz.prog.cellsOf 58=2:=by kernel_rfl
  simp [n1,n3,n4,n5,n6]at hlv hsy hfu hyl hg2
  have q0:=hg2 0 _ rfl
  have q1:=hg2 1 _ rfl
  clear hg2
  rw[List.getElem?_eq_getElem (by omega)]at q0 q1
  obtain⟨keep,kv,hkv,hkr⟩:=opens_slice (c:=1) Tryz.underlying56 (by kernel_rfl) (by decide) (opens_bool Tryz.underlying4) _ _ _ _ _ _ _ _ _ q0
  obtain⟨lack,hla,_⟩:=opens_int Tryz.underlying3 _ _ _ _ _ _ _ _ _ q1
  refine⟨⟨l,sy,fu,keep,lack⟩,lv,kv,?_,hlr,hkr,⟨hs1,hs2⟩,hf1,hf2⟩
  simp [n1,n4]at hkv hla
  subst hlv hsy hfu hkv hla
  rfl
theorem crash_arg {w:World} {v:Value} (hv:∃cs,v=.agg cs) (h:∃y,CrashR w v.cells.toList y):∃y:CrashS×Value×Value,v=.agg (crashA y.1 y.2.1 y.2.2)∧CrashIn w y.1 y.2.1 y.2.2:=by
 obtain⟨cs,rfl⟩:=hv
 obtain⟨y,lv,kv,he,hr⟩:=h
 refine⟨(y,lv,kv),?_,hr⟩
 simp only[Value.cells]at he
 rw[Array.toList_inj.1 he]
end Go.Proofs.YtiahjipoofeliaaGreatDoor.tp
