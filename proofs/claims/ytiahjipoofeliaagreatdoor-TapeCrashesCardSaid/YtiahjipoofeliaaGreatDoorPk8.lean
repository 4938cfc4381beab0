/- Lemmas for this claim. -/
import Derived.StillTailTactics
import Derived.Test.YtiahjipoofeliaaGreatDoorPk7
set_option maxRecDepth 100000
namespace Go.Proofs.YtiahjipoofeliaaGreatDoor.dk
open Go.ChangeShapes Go.WideShapes Go.ChangeAt Go.RowKit
section
variable {w w' w1:World} {p mb:Nat} {wv wv':Value} {D:DiskS} {F:Nat→Prop}
theorem DeleteFunc_any (G fb b:Nat) (hG:DelFn G) (wv:Value) (L:List WaitS) (w:World) (h:w.ownsRow 0 133 3 wv L.length (L.flatMap encW))
  (hfb:w.cell? ⟨fb,0,none⟩=some (ptrTo b)) (hb:Plain w b) (hL:∀x∈L,Plain w x.blk) (hlen:L.length≤1000000) (hne:∀g,wv.ownBlock=some g→g≠fb∧g≠b∧∀x∈L,g≠x.blk) :
  Calls Tryz.prog 131 #[wv,.func (.func G) #[] #[ptrTo fb]] w (DelDone wv (keepW b L) w):=by
 rcases h.2 with ⟨rfl,h0⟩|⟨g,cap,cur,rfl,_,hc,h1,h2,h3,h4⟩
 ·have hL0:L=[]:=List.eq_nil_of_length_eq_zero h0
  subst hL0
  have hdone:DelDone (.slice none 0 0) (keepW b []) w (.returned (.slice none 0 0)) w:=⟨_,rfl,⟨rfl,.inl ⟨rfl,rfl⟩⟩,.refl _ _,rfl⟩
  have Hd:=box hdone
  clear hdone h
  have hen:=hG.1
  unfold EntersF at hen
  clear hG
  all_goals
   go_enter Tryz.func131,Tryz.ntmps131
   go_wp2_with fail
   refine(IndexFuncNil_any _ _).mono ?_
   rintro e w' ⟨rfl,rfl⟩
   go_wp2_with fail
   go_ret
   exact Hd.out
 ·exact DeleteFunc_in G fb b hG g cap L w ⟨cur,hc,h1,h2,h3,h4⟩ hfb hb hL hlen (hne g rfl)
theorem DiskIn.rowTo (h:DiskIn w p mb wv D) (k:Keeps (fun g=>wv.ownBlock=some g) w w1) {L:List WaitS} (r:w1.ownsRow 0 133 3 wv' L.length (L.flatMap encW)) (o:∀g,wv'.ownBlock=some g→wv.ownBlock=some g∨w.heap.size≤g)
  (hl:∀x∈L,∃f∈D.files,f.blk=x.blk):DiskIn (w1.setCell ⟨p,3,none⟩ wv') p mb wv' { D with waits:=L }:=by
 have e1:∀b,b<w.heap.size→wv.ownBlock≠some b→w1.heap[b]? = w.heap[b]? := fun b hb hn=>k.block b hb hn
 have hp:w1.heap[p]? = some (.cells (diskCells D mb wv) 93 (0,0)):=(e1 p (heap_lt h.obj) h.p_ne_row).trans h.obj
 refine⟨?_,?_,?_,?_,h.blks,hl⟩
 ·rw[heap_set hp];rfl
 ·exact(h.map.same (e1 mb h.map.lt h.mb_ne_row)).same (heap_set_other h.p_ne_mb.symm _ _)
 ·intro f hf
  rw[heap_set_other (h.p_ne_file hf),e1 _ (heap_lt (h.files f hf)) (h.file_ne_row hf)];exact h.files f hf
 ·refine row_same r (fun g hg=>heap_set_other (fun e=>?_) _ _)
  subst e
  rcases o _ hg with h1|h1
  ·exact h.p_ne_row h1
  ·have:=heap_lt h.obj;omega
theorem turn_same {n:ByteArray} {g:FileS→FileS} (hg:∀x,(g x).name=x.name∧(g x).blk=x.blk):(D.turn n g).files.map encF=D.files.map encF∧(D.turn n g).files.map (·.blk)=D.files.map (·.blk):=by
 unfold DiskS.turn
 simp only[List.map_map]
 constructor<;>apply List.map_congr_left<;>intro x _<;>simp only[Function.comp]<;>split<;>simp [encF,hg]
theorem DiskIn.fileTo (h:DiskIn w p mb wv D) {n:ByteArray} {f:FileS} (hf:D.find n=some f) (k:Keeps (· = f.blk) w w1) {g:FileS→FileS} (hg:∀x,(g x).name=x.name∧(g x).blk=x.blk)
  (hc:w1.heap[f.blk]? = some (.cells #[.string (g f).image,.string (g f).now] 137 (0,0))):DiskIn w1 p mb wv (D.turn n g):=by
 obtain⟨hm,hn⟩:=find_some hf
 have e1:∀b,b<w.heap.size→b≠f.blk→w1.heap[b]? = w.heap[b]? := fun b hb hn=>k.block b hb hn
 refine⟨?_,?_,?_,?_,by rw[(turn_same hg).2];exact h.blks,?_⟩
 ·exact(e1 p (heap_lt h.obj) (h.p_ne_file hm).symm).trans h.obj
 ·rw[(turn_same hg).1];exact h.map.same (e1 mb h.map.lt (h.mb_ne_file hm).symm)
 ·intro x hx
  unfold DiskS.turn at hx
  obtain⟨y,hy,rfl⟩:=List.mem_map.1 hx
  by_cases hyn:y.name=n
  ·have:y=f:=nodup_inj h.names hy hm (by rw[hyn,hn])
   subst this
   rw[if_pos hyn,(hg y).2];exact hc
  ·rw[if_neg hyn]
   have hb:y.blk≠f.blk:=fun e=>hyn (by rw[nodup_inj h.blks hy hm e,hn])
   exact(e1 _ (heap_lt (h.files y hy)) hb).trans (h.files y hy)
 ·exact row_same h.waits (fun b hb=>e1 b (h.waits.lt b hb).2 (fun e=>h.file_ne_row hm (by rw[hb,e])))
 ·intro x hx
  obtain⟨y,hy,he⟩:=h.live x hx
  have:y.blk∈(D.turn n g).files.map (·.blk):=by rw[(turn_same hg).2];exact List.mem_map.2 ⟨y,hy,rfl⟩
  obtain⟨z,hz,hze⟩:=List.mem_map.1 this
  exact⟨z,hz,hze.trans he⟩
theorem DiskIn.plain (h:DiskIn w p mb wv D) {f:FileS} (hf:f∈D.files):Plain w f.blk:=⟨_,_,h.files f hf⟩
theorem DiskIn.plainW (h:DiskIn w p mb wv D):∀x∈D.waits,Plain w x.blk:=fun x hx=>by
 obtain⟨f,hf,he⟩:=h.live x hx;rw[←he];exact h.plain hf
theorem row_slice {n base size:Nat} {xs:List Value} {e:TypeId} (h:w.ownsRow base e size wv n xs):∃a n c,wv=.slice a n c:=by
 rcases h.2 with ⟨rfl,_⟩|⟨g,cap,cur,rfl,_⟩
 ·exact⟨_,_,_,rfl⟩
 ·exact⟨_,_,_,rfl⟩
def Apart (v:Value) (F:Nat→Prop):Prop:=∀a n c,v=.slice (some a) n c→0<n→¬F a.block
def LastDone (p:Nat) (D:DiskS) (F:Nat→Prop) (w:World) (e:Ending) (w':World):Prop:=e=.returned (.tuple #[])∧DiskAt w' p D F∧Keeps F w w'
theorem last_foot (n:ByteArray):((D.last n).files.map (·.blk))=D.files.map (·.blk):=by
 unfold DiskS.last
 cases D.find n with
 | none=>rfl
 | some f=>exact(turn_same (D:=D) (n:=n) (g:=fun f=>{ f with image:=f.now }) (fun x=>⟨rfl,rfl⟩)).2
theorem last_has (n m:ByteArray):(D.last n).has m=D.has m:=by
 unfold DiskS.has DiskS.find
 have:∀l:List FileS,∀g:FileS→FileS,(∀x,(g x).name=x.name)→((l.map g).find? fun f=>decide (f.name=m)).isSome=(l.find? fun f=>decide (f.name=m)).isSome:=by
  intro l g hg
  induction l with
  | nil=>rfl
  | cons x l ih=>simp only[List.map_cons,List.find?_cons,hg];split<;>simp_all
 unfold DiskS.last
 cases D.find n with
 | none=>rfl
 | some f =>
  simp only[DiskS.without,DiskS.turn]
  exact this _ _ (fun x=>by split<;>rfl)
theorem last_waits (n:ByteArray):(D.last n).waits.length≤D.waits.length:=by
 unfold DiskS.last
 cases D.find n with
 | none=>exact Nat.le_refl _
 | some f=>exact List.length_filter_le _ _
theorem last_snoc (l:List ByteArray) (k:Nat) (hk:k<l.length):(l.take (k+1)).foldl DiskS.last D=((l.take k).foldl DiskS.last D).last (l.getD k ByteArray.empty):=by
 rw[List.take_succ_eq_append_getElem hk,List.foldl_append];simp [List.getD_eq_getElem?_getD,List.getElem?_eq_getElem hk]
theorem last_some {n:ByteArray} {f:FileS} (hf:D.find n=some f):D.last n = { D.turn n (fun f=>{ f with image:=f.now }) with waits:=keepW f.blk D.waits }:=by
 unfold DiskS.last;rw[hf];rfl
theorem DiskIn.lastFile (h:DiskIn w p mb wv D) {n:ByteArray} {f:FileS} (hf:D.find n=some f) (m:Nat) (hm:w.heap.size=m) :
  DiskIn (((w.setCell ⟨f.blk,0,none⟩ (.string f.now)).alloc (.cells #[ptrTo f.blk] 131)).drew) p mb wv (D.turn n fun f=>{ f with image:=f.now }):=by
 have h1:DiskIn (w.setCell ⟨f.blk,0,none⟩ (.string f.now)) p mb wv (D.turn n fun f=>{ f with image:=f.now }) :=
  h.fileTo hf ((Keeps.refl (· = f.blk) w).setCell (p:=⟨f.blk,0,none⟩) (.inl rfl) _) (fun _=>⟨rfl,rfl⟩) (heap_set (h.files f (find_some hf).1) 0 _)
 exact h1.calm (((Calm.refl _).alloc _).drew)
set_option maxHeartbeats 4000000 in
theorem lasts_any (v:Value) (l:List ByteArray) (w:World) (h:DiskAt w p D F) (hv:StrsAt w v l) (hap:Apart v F) (hl:l.length≤4294967296) (hhas:∀n∈l,D.has n=true) (hwl:D.waits.length≤1000000) :
  Calls Tryz.prog 152 #[ptrTo p,v] w (LastDone p (l.foldl DiskS.last D) F w):=by
 obtain⟨a,cap,rfl,hc⟩:=hv.uni
 have Hc:=box hc
 have H:=box h
 have Hhas:=box hhas
 have Hap:=box hap
 clear hc hv h hhas hap
 go_enter Tryz.func152,Tryz.ntmps152
 go_wp2
 go_loopw [9] (fun i wr=>∃k:Nat,k≤l.length∧i=.int .i64 k∧DiskAt wr p ((l.take k).foldl DiskS.last D) F∧Keeps F w wr∧(∀m,((l.take k).foldl DiskS.last D).has m=D.has m)∧((l.take k).foldl DiskS.last D).waits.length≤D.waits.length) (fun i _=>l.length-(intOf i).toNat)
 case atStart=>exact⟨0,Nat.zero_le _,rfl,H.out,.refl _ _,fun _=>rfl,Nat.le_refl _⟩
 case round =>
  obtain⟨k,hk,rfl,hdisk,hkeep,hh,hw⟩:=hrel
  by_cases hlt:k<l.length
  ·obtain⟨b,off,rfl,hbl,hcell⟩:=Hc.out k hlt
   have hsn:=box (last_snoc (D:=D) l k hlt)
   have hin:=box (show D.has (l.getD k ByteArray.empty)=true from Hhas.out _ (by rw[List.getD_eq_getElem?_getD,List.getElem?_eq_getElem hlt];exact List.getElem_mem _))
   obtain⟨s,hs⟩:∃s,l.getD k ByteArray.empty=s:=⟨_,rfl⟩
   obtain⟨E,hE⟩:∃E,(l.take k).foldl DiskS.last D=E:=⟨_,rfl⟩
   rw[hs]at hcell hsn hin
   rw[hE]at hsn hdisk hh hw
   clear hs hE
   have hcw:wr.cell? ⟨b,off+k,none⟩=some (.string s):=by
    simp only[World.cell?]at hcell ⊢
    rw[hkeep.block b hbl (Hap.out _ _ _ rfl (by omega))];exact hcell
   clear hcell
   obtain⟨f,hf,hp⟩:=has_some (D:=E) (n:=s) (by rw[hh];exact hin.out)
   obtain⟨mb,wv,hD,rfl⟩:=hdisk
   obtain⟨c0,c1,c2,c3,c4⟩:=hD.cells
   have hlook:=hD.look s
   rw[hp]at hlook
   obtain⟨d0,d1,e0,e1⟩:=hD.file hf
   have hfl:f.blk<wr.heap.size:=heap_lt (hD.files f (find_some hf).1)
   have hpl:p<wr.heap.size:=heap_lt hD.obj
   have HD:=box hD
   have Hf:=box hf
   have Hkeep:=box hkeep
   have Hh:=box hh
   have Hw:=box hw
   clear hkeep hh hw hp hD hf hin
   go_wp2_with fail
   go_region
   go_wp2_with fail
   have hT:=HD.out.lastFile Hf.out wr.heap.size rfl
   have hk1:Keeps (foot p mb wv E) w (((wr.setCell ⟨f.blk,0,none⟩ (.string f.now)).alloc (.cells #[ptrTo f.blk] 131)).drew):=((Hkeep.out.setCell (p:=⟨f.blk,0,none⟩) (.inl (.inr (.inr (.inr (List.mem_map.2 ⟨f,(find_some Hf.out).1,rfl⟩))))) _).alloc _).drew
   have hfbc:(((wr.setCell ⟨f.blk,0,none⟩ (.string f.now)).alloc (.cells #[ptrTo f.blk] 131)).drew).heap[wr.heap.size]? = some (.cells #[ptrTo f.blk] 131 (0,0)):=by
    have:=heap_new (wr.setCell ⟨f.blk,0,none⟩ (.string f.now)) (.cells #[ptrTo f.blk] 131)
    rwa[show (wr.setCell ⟨f.blk,0,none⟩ (.string f.now)).heap.size=wr.heap.size by simp [World.setCell]]at this
   generalize ((wr.setCell ⟨f.blk,0,none⟩ (.string f.now)).alloc (.cells #[ptrTo f.blk] 131)).drew=W2 at *
   have hfin:f∈E.files:=(find_some Hf.out).1
   refine(DeleteFunc_any _ wr.heap.size f.blk lasts_fn wv E.waits W2 hT.waits (cell_of hfbc 0) (by
     have:=hT.plain (f:=(fun f:FileS=>{ f with image:=f.now }) f) (by unfold DiskS.turn;exact List.mem_map.2 ⟨f,hfin,if_pos (find_some Hf.out).2⟩);exact this) hT.plainW (by have:=Hw.out;omega) (fun g hg=>⟨fun e=>by have:=(HD.out.waits.lt g hg).2;omega,fun e=>HD.out.file_ne_row hfin (by rw[hg,e]),fun x hx e=>?_⟩)).mono ?_
   ·obtain⟨y,hy,he⟩:=HD.out.live x hx
    exact HD.out.file_ne_row hy (by rw[hg,e,he])
   rintro e w2 ⟨wv',rfl,hrow,hk2,hob⟩
   obtain⟨a',n',cap',rfl⟩:=row_slice hrow
   have hp2:w2.heap[p]? = some (.cells (diskCells E mb wv) 93 (0,0)):=(hk2.block p (heap_lt hT.obj) hT.p_ne_row).trans hT.obj
   have g3:=cell_of hp2 3
   have g4:=free_of hp2 3
   have hfin2:=box (hT.rowTo hk2 hrow (fun g hg=>.inl (hob ▸ hg)) (fun x hx=>hT.live x (List.mem_filter.1 hx).1))
   have hk3:=box ((hk1.trans' (hk2.mono (fun b _ hb=>.inr (.inr (.inl hb))))).setCell (p:=⟨p,3,none⟩) (.inl (.inl rfl)) (.slice a' n' cap'))
   have hob:=box hob
   clear hT hk1 hk2 hrow hfbc hp2
   go_wp2_with fail
   go_roundw
   case rel =>
    refine⟨k+1,by omega,by go_num,⟨mb,.slice a' n' cap',?_,?_⟩,hk3.out,fun m=>?_,?_⟩
    ·rw[hsn.out,last_some Hf.out];exact hfin2.out
    ·rw[hsn.out];unfold foot;rw[last_foot,hob.out]
    ·rw[hsn.out,last_has];exact Hh.out m
    ·rw[hsn.out];exact Nat.le_trans (last_waits _) Hw.out
   case measure=>simp [intOf];omega
  ·obtain rfl:k=l.length:=by omega
   rw[List.take_length]at hdisk
   have Hdisk:=box hdisk
   have Hkeep:=box hkeep
   clear hdisk hkeep hh hw
   go_wp2
   go_end0
   exact⟨rfl,Hdisk.out,Hkeep.out⟩
end
section
variable {w w' w1:World} {p mb:Nat} {wv wv':Value} {D:DiskS} {F:Nat→Prop}
theorem _root_.Go.Proofs.YtiahjipoofeliaaGreatDoor.StrsAt.keep {v:Value} {l:List ByteArray} {F:Nat→Prop} (h:StrsAt w v l) (k:Keeps F w w') (ap:Apart v F):StrsAt w' v l:=by
 rcases h with h|⟨b,off,cap,hv,hc⟩
 ·exact .inl h
 ·refine .inr ⟨b,off,cap,hv,fun j hj=>?_⟩
  have h1:=hc j hj
  have hlt:b<w.heap.size:=World.block_lt_of_cell? w _ h1
  simp only[World.cell?]at h1 ⊢
  rw[k.block b hlt (ap _ _ _ hv (by omega))];exact h1
theorem filter_split (h:DiskIn w p mb wv D) {n:ByteArray} {f:FileS} (hf:D.find n=some f):∃L1 L2,D.files=L1++f :: L2∧D.files.filter (fun x=>!decide (x.name=n))=L1++L2:=by
 obtain⟨hm,hn⟩:=find_some hf
 obtain⟨L1,L2,hL⟩:=List.append_of_mem hm
 refine⟨L1,L2,hL,?_⟩
 have hnames:=h.names
 rw[hL,List.map_append,List.map_cons,List.nodup_append]at hnames
 obtain⟨n1,n2,n3⟩:=hnames
 rw[List.nodup_cons]at n2
 have a1:∀x∈L1,(!decide (x.name=n))=true:=fun x hx=>by
  have:=n3 x.name (List.mem_map.2 ⟨x,hx,rfl⟩) f.name (by simp)
  simp [hn]at this;simpa using this
 have a2:∀x∈L2,(!decide (x.name=n))=true:=fun x hx=>by
  have:x.name≠f.name:=fun e=>n2.1 (List.mem_map.2 ⟨x,hx,e⟩)
  rw[hn]at this;simpa using this
 rw[hL,List.filter_append,List.filter_cons,List.filter_eq_self.2 a1,List.filter_eq_self.2 a2]
 simp [hn]
theorem DiskIn.del (h:DiskIn w p mb wv D) {n:ByteArray} {f:FileS} (hf:D.find n=some f) (hw:∀x∈D.waits,x.blk≠f.blk) :
  ∃o,(∀ty,(Builtin.delete_ #[90,9] ty #[.map (some mb),.string n]).run Tryz.prog w=.ok (.tuple #[]) (ChangeMaps.setBlock w mb o)) ∧
   DiskIn (ChangeMaps.setBlock w mb o) p mb wv { D with files:=D.files.filter fun x=>!decide (x.name=n) }:=by
 obtain⟨hm,hn⟩:=find_some hf
 obtain⟨L1,L2,hL,hfil⟩:=filter_split h hf
 have hmap:=h.map
 rw[hL,List.map_append,List.map_cons,show encF f=(.string n,ptrTo f.blk) by simp [encF,hn]]at hmap
 obtain⟨o,hrun,hm2⟩:=MapIs.del (P:=Tryz.prog) Tryz.underlying90 Tryz.underlying9 hmap trivial
 refine⟨o,hrun,?_,?_,?_,?_,?_,?_⟩
 ·rw[heap_put_other _ _ h.p_ne_mb];exact h.obj
 ·rw[hfil,List.map_append];exact hm2
 ·intro x hx
  have hx':=(List.mem_filter.1 hx).1
  rw[heap_put_other _ _ (h.mb_ne_file hx')];exact h.files x hx'
 ·exact row_same h.waits (fun g hg=>heap_put_other _ _ (fun e=>h.mb_ne_row (by rw[hg,e])))
 ·rw[hfil]
  have:=h.blks
  rw[hL]at this
  refine List.Sublist.nodup ?_ this
  exact((List.Sublist.refl L1).append (List.sublist_cons_self f L2)).map _
 ·intro x hx
  obtain⟨g,hg,he⟩:=h.live x hx
  refine⟨g,List.mem_filter.2 ⟨hg,?_⟩,he⟩
  have hgf:g≠f:=fun e=>hw x hx (by rw[←he,e])
  have:g.name≠n:=fun e=>hgf (nodup_inj h.names hg hm (by rw[e,hn]))
  simpa using this
def GoneDone (p:Nat) (D:DiskS) (F:Nat→Prop) (w:World) (e:Ending) (w':World):Prop:=e=.returned (.tuple #[])∧∃F',DiskAt w' p D F'∧Step F w F' w'
theorem drop_some {n:ByteArray} {f:FileS} (hf:D.find n=some f):D.drop n = { D with waits:=keepW f.blk D.waits,files:=D.files.filter fun x=>!decide (x.name=n) }:=by
 unfold DiskS.drop;rw[hf];rfl
set_option maxHeartbeats 4000000 in
theorem dropOne_any (b off cap:Nat) (s:ByteArray) (w:World) (h:DiskAt w p D F) (hcell:w.cell? ⟨b,off,none⟩=some (.string s)) (hhas:D.has s=true) (hwl:D.waits.length≤1000000) :
  Calls Tryz.prog 81 #[ptrTo p,.slice (some ⟨b,off,none⟩) 1 cap] w (GoneDone p (D.drop s) F w):=by
 obtain⟨f,hf,hp⟩:=has_some hhas
 obtain⟨mb,wv,hD,rfl⟩:=h
 obtain⟨c0,c1,c2,c3,c4⟩:=hD.cells
 have hlook:=hD.look s
 rw[hp]at hlook
 have hbl:b<w.heap.size:=World.block_lt_of_cell? w _ hcell
 have hpl:p<w.heap.size:=heap_lt hD.obj
 have HD:=box hD
 have Hf:=box hf
 have Hw:=box hwl
 clear hD hf hp hhas hwl
 go_enter Tryz.func81,Tryz.ntmps81
 go_wp2_with fail
 refine wp_loop_rounds 2 ?_
 rw[rounds_succ]
 go_wp2_with fail
 have hT:=HD.out.calm ((Calm.refl w).alloc (.cells #[ptrTo f.blk] 131))
 have hfin:f∈D.files:=(find_some Hf.out).1
 have hfbc:=heap_new w (.cells #[ptrTo f.blk] 131)
 have hk1:Keeps (foot p mb wv D) w (w.alloc (.cells #[ptrTo f.blk] 131)):=(Keeps.refl _ w).alloc _
 generalize w.alloc (.cells #[ptrTo f.blk] 131)=W2 at *
 refine(DeleteFunc_any _ w.heap.size f.blk drop_fn wv D.waits W2 hT.waits (cell_of hfbc 0) (hT.plain hfin) hT.plainW (by have:=Hw.out;omega) (fun g hg=>⟨fun e=>by have:=(HD.out.waits.lt g hg).2;omega,fun e=>HD.out.file_ne_row hfin (by rw[hg,e]),fun x hx e=>?_⟩)).mono ?_
 ·obtain⟨y,hy,he⟩:=HD.out.live x hx
  exact HD.out.file_ne_row hy (by rw[hg,e,he])
 rintro e w2 ⟨wv',rfl,hrow,hk2,hob⟩
 obtain⟨a',n',cap',rfl⟩:=row_slice hrow
 have hp2:w2.heap[p]? = some (.cells (diskCells D mb wv) 93 (0,0)):=(hk2.block p (heap_lt hT.obj) hT.p_ne_row).trans hT.obj
 have g2:w2.cell? ⟨p,2,none⟩=some (.map (some mb)):=cell_of hp2 2
 have g3:=cell_of hp2 3
 have g4:=free_of hp2 3
 have hpl2:=heap_lt hp2
 have hfin2:=hT.rowTo hk2 hrow (fun g hg=>.inl (hob ▸ hg)) (fun x hx=>hT.live x (List.mem_filter.1 hx).1)
 obtain⟨o,hrun,hdel⟩:=hfin2.del (n:=s) (f:=f) Hf.out (fun x hx e=>by have:=(List.mem_filter.1 hx).2;simp [e]at this)
 have Hdel:=box hdel
 have hk3:=box (((hk1.trans' (hk2.mono (fun b _ hb=>.inr (.inr (.inl hb))))).setCell (p:=⟨p,3,none⟩) (.inl (.inl rfl)) (.slice a' n' cap')).setObj (.inl (.inr (.inl rfl))) o)
 have hob:=box hob
 clear hT hk1 hk2 hrow hfbc hp2 hfin2 hdel
 go_wp2_with fail
 rw[rounds_succ]
 go_wp2_with fail
 go_end0
 refine⟨rfl,_,⟨mb,_,by rw[drop_some Hf.out];exact Hdel.out,rfl⟩,hk3.out,?_⟩
 rintro b (hb|hb|hb|hb)
 ·exact .inl (.inl hb)
 ·exact .inl (.inr (.inl hb))
 ·exact .inl (.inr (.inr (.inl (by rw[←hob.out];exact hb))))
 ·refine .inl (.inr (.inr (.inr ?_)))
  rw[drop_some Hf.out]at hb
  obtain⟨x,hx,rfl⟩:=List.mem_map.1 hb
  exact List.mem_map.2 ⟨x,(List.mem_filter.1 hx).1,rfl⟩
end
section
variable {w w' w1:World} {p mb:Nat} {wv wv':Value} {D:DiskS} {F:Nat→Prop}
def OpDone (r:Int×DiskS) (p:Nat) (F:Nat→Prop) (w:World) (e:Ending) (w':World):Prop:=e=.returned (.int .i64 r.1)∧∃F',DiskAt w' p r.2 F'∧Step F w F' w'
theorem OpDone.of {r:Int×DiskS} {n:Int} {E:DiskS} (h:r=(n,E)) {F':Nat→Prop} (hd:DiskAt w' p E F') (hs:Step F w F' w'):OpDone r p F w (.returned (.int .i64 n)) w':=by
 subst h;exact⟨rfl,F',hd,hs⟩
theorem bars_cases (l:List ByteArray):(D.down=true∧D.bars l=8)∨(D.down=false∧l.all D.has=false∧D.bars l=9)∨(D.down=false∧l.all D.has=true∧D.bars l=0):=by
 unfold DiskS.bars
 cases D.down<;>cases l.all D.has<;>simp
theorem burn_has (n:ByteArray):D.burn.has n=D.has n:=by unfold DiskS.has;rw[burn_find]
set_option maxHeartbeats 4000000 in
theorem Sync_any (v:Value) (l:List ByteArray) (w:World) (h:DiskAt w p D F) (hv:StrsAt w v l) (hap:Apart v F) (hl:l.length≤4294967296) (hleft:D.left≤9223372036854775807) (hwl:D.waits.length≤1000000) :
  Calls Tryz.prog 104 #[ptrTo p,v] w (OpDone (D.sync l) p F w):=by
 obtain⟨mb,wv,h,rfl⟩:=h
 have Hb:=box (bars_any v l w h hv hl)
 have H:=box h
 have Hv:=box hv
 have Hap:=box hap
 have Hwl:=box hwl
 clear h hv hap hwl
 rcases bars_cases (D:=D) l with ⟨-,hb⟩|⟨-,-,hb⟩|⟨-,hall,hb⟩
 ·have hs:=box (show D.sync l=(8,D) by unfold DiskS.sync;rw[hb,if_pos (by decide)])
  rw[hb]at Hb
  clear hb
  go_enter Tryz.func104,Tryz.ntmps104
  go_wp2_with fail
  refine Hb.out.mono ?_
  rintro e w' ⟨rfl,rfl⟩
  go_wp2_with fail
  go_ret
  exact OpDone.of hs.out ⟨mb,wv,H.out,rfl⟩ (.refl _ _)
 ·have hs:=box (show D.sync l=(9,D) by unfold DiskS.sync;rw[hb,if_pos (by decide)])
  rw[hb]at Hb
  clear hb
  go_enter Tryz.func104,Tryz.ntmps104
  go_wp2_with fail
  refine Hb.out.mono ?_
  rintro e w' ⟨rfl,rfl⟩
  go_wp2_with fail
  go_ret
  exact OpDone.of hs.out ⟨mb,wv,H.out,rfl⟩ (.refl _ _)
 ·have Hall:=box hall
  rw[hb]at Hb
  cases hbn:D.burns
  ·have hs:=box (show D.sync l=(0,l.foldl DiskS.last D.burn) by unfold DiskS.sync DiskS.doing;rw[hb,if_neg (by decide),hbn];rfl)
   have Hbn:=box hbn
   clear hb hbn hall
   go_enter Tryz.func104,Tryz.ntmps104
   go_wp2_with fail
   refine Hb.out.mono ?_
   rintro e w' ⟨rfl,rfl⟩
   go_wp2_with fail
   refine(done_any _ H.out hleft).mono ?_
   rw[Hbn.out]
   rintro e w' ⟨rfl,hN⟩
   have hk:Keeps (foot p mb wv D) w w':=hN.keeps.mono fun b _ e=>.inl e
   have HN:=box hN
   have Hk:=box hk
   clear hN hk
   go_wp2_with fail
   refine(lasts_any (F:=foot p mb wv D) v l w' ⟨mb,wv,HN.out.disk,foot_burn.symm⟩ (Hv.out.keep Hk.out Hap.out) Hap.out hl (fun n hn=>by rw[burn_has];exact List.all_eq_true.1 Hall.out n hn) (by rw[burn_files.2.1];exact Hwl.out)).mono ?_
   rintro e w2 ⟨rfl,hd,hk2⟩
   go_wp2_with fail
   go_ret
   exact OpDone.of hs.out hd ⟨Hk.out.trans' hk2,fun b hb=>.inl hb⟩
  ·have hs:=box (show D.sync l=(8,D.burn) by unfold DiskS.sync DiskS.doing;rw[hb,if_neg (by decide),hbn];rfl)
   have Hbn:=box hbn
   clear hb hbn hall
   go_enter Tryz.func104,Tryz.ntmps104
   go_wp2_with fail
   refine Hb.out.mono ?_
   rintro e w' ⟨rfl,rfl⟩
   go_wp2_with fail
   refine(done_any _ H.out hleft).mono ?_
   rw[Hbn.out]
   rintro e w' ⟨rfl,hN⟩
   go_wp2_with fail
   go_ret
   exact OpDone.of hs.out ⟨mb,wv,hN.disk,foot_burn.symm⟩ (hN.step (.inl rfl))
end
section
variable {w w' w1:World} {p mb:Nat} {wv wv':Value} {D:DiskS} {F:Nat→Prop}
theorem apart_new (h:DiskIn w p mb wv D) {n cap:Nat}:Apart (.slice (some ⟨w.heap.size,0,none⟩) n cap) (foot p mb wv D):=by
 intro a m c e _ hf
 cases e
 have:=h.foot_lt _ hf
 simp at this
theorem turn_foot {n:ByteArray} {g:FileS→FileS} (hg:∀x,(g x).name=x.name∧(g x).blk=x.blk):foot p mb wv (D.turn n g)=foot p mb wv D:=by unfold foot;rw[(turn_same hg).2]
theorem turn_has {n:ByteArray} {g:FileS→FileS} (hg:∀x,(g x).name=x.name∧(g x).blk=x.blk) (m:ByteArray):(D.turn n g).has m=D.has m:=by
 unfold DiskS.has DiskS.find DiskS.turn
 have:∀l:List FileS,((l.map fun x=>if x.name=n then g x else x).find? fun f=>decide (f.name=m)).isSome=(l.find? fun f=>decide (f.name=m)).isSome:=by
  intro l
  induction l with
  | nil=>rfl
  | cons x l ih =>
   have e:(if x.name=n then g x else x).name=x.name:=by split<;>simp [hg]
   simp only[List.map_cons,List.find?_cons,e];split<;>simp_all
 exact this _
def cutF (j:Nat) (f:FileS):FileS:={ f with now:=f.now.extract 0 j }
set_option maxHeartbeats 4000000 in
theorem Cut_any (n:ByteArray) (k:Int) (w:World) (h:DiskAt w p D F) (hleft:D.left≤9223372036854775807) (hwl:D.waits.length≤1000000) :
  Calls Tryz.prog 103 #[ptrTo p,.string n,.int .i64 k] w (OpDone (D.cut n k) p F w):=by
 obtain⟨mb,wv,h,rfl⟩:=h
 have hcalm:Calm w (w.alloc (.cells #[.string n] 9)):=(Calm.refl w).alloc _
 have h1:=h.calm hcalm
 obtain⟨c0,c1,c2,c3,c4⟩:=h1.cells
 have hlook:=h1.look n
 have Hb:=box (bars_any (p:=p) (mb:=mb) (wv:=wv) (D:=D) (.slice (some ⟨w.heap.size,0,none⟩) 1 1) [n] (w.alloc (.cells #[.string n] 9)) h1 (StrsAt.one (by go_cell)) (by simp))
 have hb1:=box (bars_one (D:=D) n)
 have H1:=box h1
 have Hwl:=box hwl
 have Hcalm:=box hcalm
 clear hwl hcalm h
 cases hd:D.down
 ·cases hf:D.find n with
  | none =>
   have hh:D.has n=false:=by unfold DiskS.has;rw[hf];rfl
   have hres:=box (show D.cut n k=(9,D) by unfold DiskS.cut;rw[hd,hf];rfl)
   have hb2:=box (show D.bars [n]=9 by rw[hb1.out,hd,hh];rfl)
   clear hb1 h1 hf hh hd
   go_enter Tryz.func103,Tryz.ntmps103
   go_wp2_with fail
   refine Hb.out.mono ?_
   rw[hb2.out]
   rintro e w' ⟨rfl,rfl⟩
   go_wp2_with fail
   go_ret
   exact OpDone.of hres.out ⟨mb,wv,H1.out,rfl⟩ (Step.of_calm Hcalm.out)
  | some f =>
   have hh:D.has n=true:=by unfold DiskS.has;rw[hf];rfl
   have hp:=ptr_some hf
   obtain⟨d0,d1,d2,d3⟩:=h1.file hf
   have hb2:=box (show D.bars [n]=0 by rw[hb1.out,hd,hh];rfl)
   rw[hp]at hlook
   by_cases hr:k<0∨(f.now.size:Int)<k
   ·have hres:=box (show D.cut n k=(2,D) by unfold DiskS.cut;rw[hd,hf];simp only[if_pos hr];rfl)
    clear hb1 h1 hf hh hd hp
    rcases hr with hr|hr
    ·go_enter Tryz.func103,Tryz.ntmps103
     go_wp2_with fail
     refine Hb.out.mono ?_
     rw[hb2.out]
     rintro e w' ⟨rfl,rfl⟩
     go_wp2_with fail
     go_ret
     exact OpDone.of hres.out ⟨mb,wv,H1.out,rfl⟩ (Step.of_calm Hcalm.out)
    ·have hr0:¬k<0:=by omega
     go_enter Tryz.func103,Tryz.ntmps103
     go_wp2_with fail
     refine Hb.out.mono ?_
     rw[hb2.out]
     rintro e w' ⟨rfl,rfl⟩
     go_wp2_with fail
     go_ret
     exact OpDone.of hres.out ⟨mb,wv,H1.out,rfl⟩ (Step.of_calm Hcalm.out)
   ·obtain⟨j,rfl⟩:∃j:Nat,k=j:=⟨k.toNat,by omega⟩
    have hj:j≤f.now.size:=by omega
    have hj1:¬((f.now.size:Int)<j):=by omega
    cases hbn:D.burns
    ·have hres:=box (show D.cut n j=(0,(D.burn.turn n (cutF j)).last n) by unfold DiskS.cut DiskS.doing;rw[hd,hf];simp only[if_neg hr,hbn];rfl)
     have Hf:=box hf
     have Hbn:=box hbn
     clear hb1 h1 hf hh hd hp hbn hr
     go_enter Tryz.func103,Tryz.ntmps103
     go_wp2_with fail
     refine Hb.out.mono ?_
     rw[hb2.out]
     rintro e w' ⟨rfl,rfl⟩
     go_wp2_with fail
     refine(done_any _ H1.out hleft).mono ?_
     rw[Hbn.out]
     rintro e w2 ⟨rfl,hN⟩
     have hf2:D.burn.find n=some f:=by rw[burn_find];exact Hf.out
     obtain⟨g0,g1,g2,g3⟩:=hN.disk.file hf2
     have hfl:f.blk<w2.heap.size:=heap_lt (hN.disk.files f (find_some hf2).1)
     have hfile:=box (hN.disk.fileTo hf2 ((Keeps.refl (· = f.blk) w2).setCell (p:=⟨f.blk,1,none⟩) (.inl rfl) (.string (f.now.extract 0 j))) (g:=cutF j) (fun _=>⟨rfl,rfl⟩) (heap_set (hN.disk.files f (find_some hf2).1) 1 _))
     have hk2:=box (((Keeps.of_calm (F:=foot p mb wv D) Hcalm.out).trans' (hN.keeps.mono fun b _ e=>.inl e)).setCell (p:=⟨f.blk,1,none⟩) (.inl (.inr (.inr (.inr (List.mem_map.2 ⟨f,(find_some Hf.out).1,rfl⟩))))) (.string (f.now.extract 0 j)))
     have Hf2:=box hf2
     have hW:=box (show D.burn.waits=D.waits from burn_files.2.1)
     clear hN hf2
     go_wp2_with fail
     have hs3:(w2.setCell ⟨f.blk,1,none⟩ (.string (f.now.extract 0 j))).heap.size=w2.heap.size:=by simp [World.setCell]
     rw[←hs3]
     generalize w2.setCell ⟨f.blk,1,none⟩ (.string (f.now.extract 0 j))=w3 at *
     refine(lasts_any (F:=foot p mb wv D) (.slice (some ⟨w3.heap.size,0,none⟩) 1 1) [n] _ ⟨mb,wv,hfile.out.calm ((Calm.refl w3).alloc _),by rw[turn_foot (g:=cutF j) (fun _=>⟨rfl,rfl⟩),foot_burn]⟩ (StrsAt.one (by go_cell)) ?_ (by simp) ?_ ?_).mono ?_
     ·have:=apart_new hfile.out (n:=1) (cap:=1)
      rw[turn_foot (g:=cutF j) (fun _=>⟨rfl,rfl⟩),foot_burn]at this
      exact this
     ·intro m hm
      rw[List.mem_singleton]at hm
      subst hm
      rw[turn_has (g:=cutF j) (fun _=>⟨rfl,rfl⟩)]
      unfold DiskS.has;rw[Hf2.out];rfl
     ·exact hW.out ▸ Hwl.out
     rintro e w4 ⟨rfl,hd4,hk4⟩
     go_wp2_with fail
     go_ret
     exact OpDone.of hres.out hd4 ⟨(hk2.out.alloc _).trans' hk4,fun b hb=>.inl hb⟩
    ·have hres:=box (show D.cut n j=(8,D.burn) by unfold DiskS.cut DiskS.doing;rw[hd,hf];simp only[if_neg hr,hbn];rfl)
     have Hbn:=box hbn
     clear hb1 h1 hf hh hd hp hbn hr
     go_enter Tryz.func103,Tryz.ntmps103
     go_wp2_with fail
     refine Hb.out.mono ?_
     rw[hb2.out]
     rintro e w' ⟨rfl,rfl⟩
     go_wp2_with fail
     refine(done_any _ H1.out hleft).mono ?_
     rw[Hbn.out]
     rintro e w2 ⟨rfl,hN⟩
     go_wp2_with fail
     go_ret
     exact OpDone.of hres.out ⟨mb,wv,hN.disk,foot_burn.symm⟩ (Step.calm_left Hcalm.out (hN.step (.inl rfl)))
 ·have hres:=box (show D.cut n k=(8,D) by unfold DiskS.cut;rw[hd];rfl)
  have hb2:=box (show D.bars [n]=8 by rw[hb1.out,hd];rfl)
  clear hb1 h1 hd
  go_enter Tryz.func103,Tryz.ntmps103
  go_wp2_with fail
  refine Hb.out.mono ?_
  rw[hb2.out]
  rintro e w' ⟨rfl,rfl⟩
  go_wp2_with fail
  go_ret
  exact OpDone.of hres.out ⟨mb,wv,H1.out,rfl⟩ (Step.of_calm Hcalm.out)
end
section
variable {w w' w1:World} {p mb:Nat} {wv wv':Value} {D:DiskS} {F:Nat→Prop}
theorem drop_snoc (l:List ByteArray) (k:Nat) (hk:k<l.length):(l.take (k+1)).foldl DiskS.drop D=((l.take k).foldl DiskS.drop D).drop (l.getD k ByteArray.empty):=by
 rw[List.take_succ_eq_append_getElem hk,List.foldl_append];simp [List.getD_eq_getElem?_getD,List.getElem?_eq_getElem hk]
theorem drop_none {n:ByteArray} (h:D.has n=false):D.drop n=D:=by
 unfold DiskS.has at h
 unfold DiskS.drop
 cases hf:D.find n
 ·rfl
 ·rw[hf]at h;cases h
theorem drop_waits (n:ByteArray):(D.drop n).waits.length≤D.waits.length:=by
 unfold DiskS.drop
 cases D.find n with
 | none=>exact Nat.le_refl _
 | some f=>exact List.length_filter_le _ _
set_option maxHeartbeats 4000000 in
theorem Delete_any (v:Value) (l:List ByteArray) (w:World) (h:DiskAt w p D F) (hv:StrsAt w v l) (hap:Apart v F) (hl:l.length≤4294967296) (hleft:D.left≤9223372036854775807) (hwl:D.waits.length≤1000000) :
  Calls Tryz.prog 37 #[ptrTo p,v] w (OpDone (D.delete l) p F w):=by
 obtain⟨mb,wv,h,rfl⟩:=h
 have Hb:=box (bars_any v l w h hv hl)
 have H:=box h
 obtain⟨a,cap,rfl,hc⟩:=hv.uni
 have Hc:=box hc
 have Hap:=box hap
 have Hwl:=box hwl
 clear h hap hwl hc hv
 rcases bars_cases (D:=D) l with ⟨-,hb⟩|⟨-,-,hb⟩|⟨-,hall,hb⟩
 ·have hs:=box (show D.delete l=(8,D) by unfold DiskS.delete;rw[hb,if_pos (by decide)])
  rw[hb]at Hb
  clear hb
  go_enter Tryz.func37,Tryz.ntmps37
  go_wp2_with fail
  refine Hb.out.mono ?_
  rintro e w' ⟨rfl,rfl⟩
  go_wp2_with fail
  go_ret
  exact OpDone.of hs.out ⟨mb,wv,H.out,rfl⟩ (.refl _ _)
 ·have hs:=box (show D.delete l=(9,D) by unfold DiskS.delete;rw[hb,if_pos (by decide)])
  rw[hb]at Hb
  clear hb
  go_enter Tryz.func37,Tryz.ntmps37
  go_wp2_with fail
  refine Hb.out.mono ?_
  rintro e w' ⟨rfl,rfl⟩
  go_wp2_with fail
  go_ret
  exact OpDone.of hs.out ⟨mb,wv,H.out,rfl⟩ (.refl _ _)
 ·have Hall:=box hall
  rw[hb]at Hb
  cases hbn:D.burns
  ·have hs:=box (show D.delete l=(0,l.foldl DiskS.drop D.burn) by unfold DiskS.delete DiskS.doing;rw[hb,if_neg (by decide),hbn];rfl)
   have Hbn:=box hbn
   clear hb hbn hall
   go_enter Tryz.func37,Tryz.ntmps37
   go_wp2_with fail
   refine Hb.out.mono ?_
   rintro e w' ⟨rfl,rfl⟩
   go_wp2_with fail
   refine(done_any _ H.out hleft).mono ?_
   rw[Hbn.out]
   rintro e w' ⟨rfl,hN⟩
   have HS:=box (show Step (foot p mb wv D) w (foot p mb wv D.burn) w' by rw[foot_burn];exact hN.step (.inl rfl))
   have HN:=box hN.disk
   clear hN
   go_wp2_with fail
   go_loopw [22] (fun i wr=>∃k:Nat,k≤l.length∧i=.int .i64 k∧(∃Fk,DiskAt wr p ((l.take k).foldl DiskS.drop D.burn) Fk∧Step (foot p mb wv D) w Fk wr)∧((l.take k).foldl DiskS.drop D.burn).waits.length≤D.waits.length) (fun i _=>l.length-(intOf i).toNat)
   case atStart=>exact⟨0,Nat.zero_le _,rfl,⟨_,⟨mb,wv,HN.out,rfl⟩,HS.out⟩,by rw[List.take_zero];exact Nat.le_of_eq (congrArg List.length burn_files.2.1)⟩
   case round =>
    obtain⟨k,hk,rfl,⟨Fk,hdisk,hstep⟩,hw⟩:=hrel
    by_cases hlt:k<l.length
    ·obtain⟨b,off,rfl,hbl,hcell⟩:=Hc.out k hlt
     have hsn:=box (drop_snoc (D:=D.burn) l k hlt)
     obtain⟨s,hs'⟩:∃s,l.getD k ByteArray.empty=s:=⟨_,rfl⟩
     obtain⟨E,hE⟩:∃E,(l.take k).foldl DiskS.drop D.burn=E:=⟨_,rfl⟩
     rw[hs']at hcell hsn
     rw[hE]at hsn hdisk hw
     clear hs' hE
     have hcw:wr.cell? ⟨b,off+k,none⟩=some (.string s):=by
      simp only[World.cell?]at hcell ⊢
      rw[hstep.keeps.block b hbl (Hap.out _ _ _ rfl (by omega))];exact hcell
     clear hcell
     have Hdisk:=box hdisk
     obtain⟨mb',wv2,hD,rfl⟩:=hdisk
     obtain⟨c0,c1,c2,c3,c4⟩:=hD.cells
     have hlook:=hD.look s
     have Hstep:=box hstep
     have Hw:=box hw
     clear hstep hw hD
     cases hh:E.has s
     ·have hp:=has_none hh
      have hno:=box (drop_none hh)
      rw[hp]at hlook
      clear hh hp
      go_wp2_with fail
      go_roundw
      case rel=>exact⟨k+1,by omega,by go_num,⟨_,by rw[hsn.out,hno.out];exact Hdisk.out,Hstep.out⟩,by rw[hsn.out,hno.out];exact Hw.out⟩
      case measure=>simp [intOf];omega
     ·obtain⟨f,hf,hp⟩:=has_some hh
      have Hh:=box hh
      rw[hp]at hlook
      clear hh hp hf
      go_wp2_with fail
      refine(dropOne_any wr.heap.size 0 1 s _ (Hdisk.out.calm ((Calm.refl wr).alloc _)) (by go_cell) Hh.out (by have:=Hw.out;have:=Hwl.out;omega)).mono ?_
      rintro e w2 ⟨rfl,F2,hd2,hs2⟩
      go_wp2_with fail
      go_roundw
      case rel=>exact⟨k+1,by omega,by go_num,⟨F2,by rw[hsn.out];exact hd2,(Hstep.out.calm ((Calm.refl wr).alloc _)).trans hs2⟩,by rw[hsn.out];exact Nat.le_trans (drop_waits _) Hw.out⟩
      case measure=>simp [intOf];omega
    ·obtain rfl:k=l.length:=by omega
     rw[List.take_length]at hdisk
     have Hdisk:=box hdisk
     have Hstep:=box hstep
     clear hdisk hstep hw
     go_wp2
     go_ret
     exact OpDone.of hs.out Hdisk.out Hstep.out
  ·have hs:=box (show D.delete l=(8,D.burn) by unfold DiskS.delete DiskS.doing;rw[hb,if_neg (by decide),hbn];rfl)
   have Hbn:=box hbn
   clear hb hbn hall
   go_enter Tryz.func37,Tryz.ntmps37
   go_wp2_with fail
   refine Hb.out.mono ?_
   rintro e w' ⟨rfl,rfl⟩
   go_wp2_with fail
   refine(done_any _ H.out hleft).mono ?_
   rw[Hbn.out]
   rintro e w' ⟨rfl,hN⟩
   go_wp2_with fail
   go_ret
   exact OpDone.of hs.out ⟨mb,wv,hN.disk,foot_burn.symm⟩ (hN.step (.inl rfl))
end
section
variable {w w' w1:World} {p mb:Nat} {wv wv':Value} {D:DiskS} {F:Nat→Prop}
theorem drop_find {a b:ByteArray} (h:a≠b):(D.drop b).find a=D.find a:=by
 unfold DiskS.drop
 cases hf:D.find b with
 | none=>rfl
 | some f =>
  unfold DiskS.find DiskS.without
  simp only[List.find?_filter]
  congr 1
  funext x
  by_cases hx:x.name=a
  ·simp [hx,h]
  ·simp [hx]
theorem drop_gone (b:ByteArray):(D.drop b).find b=none:=by
 unfold DiskS.drop
 cases hf:D.find b with
 | none=>exact hf
 | some f =>
  unfold DiskS.find
  rw[List.find?_eq_none]
  intro x hx
  have:=(List.mem_filter.1 hx).2
  simpa using this
end
theorem append_own {P:Program} (w:World) (t ty e:TypeId) (i:TypeInfo) (z:Value) (size bytes:Nat) (ht:P.underlying t=some (.slice e)) (hi:P.info? e=some i) (hz:i.zero=some z)
  (hsize:i.size=size) (hby:i.bytes=bytes) (hzs:z.cells.size=size) (hsz:0<size)
  (v:Value) (n:Nat) (xs:List Value) (hown:w.ownsRow 0 e size v n xs)
  (a:Addr) (m c:Nat) (hm:0<m) (news:List Value) (hl:news.length=m * size) (hnews:∀j u,news[j]? = some u→w.cell? (a.add j)=some u) (h1:∀u∈news,u.oneCell'=true)
  (h63:n+m≤maxLen) (hbytes:(n+m) * bytes≤140737488355328) :
  ∃v' w',(Builtin.append_ #[t,t] ty #[v,.slice (some a) m c]).run P w=.ok v' w'∧w'.ownsRow 0 e size v' (n+m) (xs++news)∧Keeps (fun g=>v.ownBlock=some g) w w' ∧
   (v'.ownBlock=v.ownBlock∨v'.ownBlock=some w.heap.size):=by
 obtain⟨v',w',hrun,hrow,hgr,_⟩:=run_append_own (P:=P) w 0 t ty e i z size bytes ht hi hz hsize hby hzs hsz v n xs hown a m c news hl hnews h1 h63 hbytes (Nat.zero_le _)
 refine⟨v',w',hrun,hrow,⟨hgr.os,hgr.tape,hgr.output,hgr.size,fun k hk hn=>hgr.block k hk (fun e=>hn e.symm)⟩,?_⟩
 subst hsize
 subst hby
 have hsmall:n+m≤9223372036854775807:=by simp only[maxLen]at h63;omega
 rcases hown.2 with ⟨rfl,rfl⟩|⟨g,cap,cur,rfl,hbg,hg,hnc,hcm,hcs,htake⟩
 ·have hr:=run_append_nil (P:=P) w t ty e i z ht hi hz a m c news hl hnews hm (by omega) (by have hb:=hbytes;simp only[Nat.zero_add]at hb;omega)
  rw[hr]at hrun
  cases hrun
  exact .inr rfl
 ·by_cases hroom:n+m≤cap
  ·have hfit:n * i.size+news.length≤cur.size:=by rw[hl,hcs,←Nat.add_mul];exact Nat.mul_le_mul_right _ hroom
   have hr:=run_append_room (P:=P) w t ty e i ht hi g n cap cur hg a m c news hl hnews h1 hroom hfit
   rw[hr]at hrun
   cases hrun
   exact .inl rfl
  ·have holds:∀j u,xs[j]? = some u→w.cell? ((⟨g,0,none⟩:Addr).add j)=some u:=hown.cells (g:=g) rfl
   have hr:=run_append_grow (P:=P) w t ty e i z ht hi hz ⟨g,0,none⟩ n cap xs hown.1 holds a m c news hl hnews (by omega) (by omega) (growslice_fits (by omega) hbytes)
   rw[hr]at hrun
   cases hrun
   exact .inr rfl
theorem infoWrite:(Tryz.prog.info? 133).map (fun i=>(i.zero,i.size,i.bytes))=some (some (.agg #[.pointer none,.int .i64 0,.string ⟨#[]⟩]),3,32):=by kernel_rfl
section
variable {w w' w1:World} {p mb:Nat} {wv wv':Value} {D:DiskS} {F:Nat→Prop}
theorem add_lit (b j:Nat):(⟨b,0,none⟩:Addr).add j=⟨b,j,none⟩:=by unfold Addr.add;split<;>simp_all
theorem append_wait (w:World) (L:List WaitS) (x:WaitS) (b:Nat) (h:w.ownsRow 0 133 3 wv L.length (L.flatMap encW)) (hb:w.heap[b]? = some (.cells #[ptrTo x.blk,.int .i64 x.off,.string x.s] 133 (0,0))) (hl:L.length≤1000000) (ty:TypeId) :
  ∃v' w',(Builtin.append_ #[91,91] ty #[wv,.slice (some ⟨b,0,none⟩) 1 1]).run Tryz.prog w=.ok v' w'∧w'.ownsRow 0 133 3 v' (L++[x]).length ((L++[x]).flatMap encW)∧Keeps (fun g=>wv.ownBlock=some g) w w' ∧
   (v'.ownBlock=wv.ownBlock∨v'.ownBlock=some w.heap.size):=by
 obtain⟨i0,hi,hz0,hz1,hz2⟩:=info_parts infoWrite
 obtain⟨v',w',h1,h2,h3,h4⟩:=append_own (P:=Tryz.prog) w 91 ty 133 i0 _ 3 32 Tryz.underlying91 hi hz0 hz1 hz2 (by kernel_rfl) (by decide) wv L.length _ h ⟨b,0,none⟩ 1 1 (by decide) (encW x) rfl (fun j u hj=>by
   rw[add_lit,cell_of hb]
   match j,hj with
   | 0,hj=>exact hj
   | 1,hj=>exact hj
   | 2,hj=>exact hj
   | k+3,hj=>simp [encW]at hj) (fun u hu=>by
   rcases List.mem_cons.1 hu with rfl|hu
   ·rfl
   rcases List.mem_cons.1 hu with rfl|hu
   ·rfl
   rcases List.mem_cons.1 hu with rfl|hu
   ·rfl
   cases hu) (by simp only[maxLen];omega) (by omega)
 refine⟨v',w',h1,?_,h3,h4⟩
 simpa [List.flatMap_append] using h2
def putF (j:Nat) (s:ByteArray) (f:FileS):FileS:={ f with now:=laid f.now j s }
def DiskS.put (D:DiskS) (n:ByteArray) (f:FileS) (j:Nat) (s:ByteArray):DiskS:={ D.turn n (putF j s) with waits:=D.waits++[⟨f.blk,j,s⟩] }
theorem write_full {n s:ByteArray} {f:FileS} {j:Nat} (hd:D.down=false) (hf:D.find n=some f) (hj:j≤f.now.size) (h1:D.cap-D.size<j+s.size-f.now.size) (h2:(f.now.size:Int)<j+s.size):D.write n j s=(7,D):=by
 unfold DiskS.write
 rw[hd,hf]
 simp only[Bool.false_eq_true,if_false]
 rw[if_neg (by omega),if_pos ⟨by omega,by omega⟩]
theorem write_goes {n s:ByteArray} {f:FileS} {j:Nat} (hd:D.down=false) (hf:D.find n=some f) (hj:j≤f.now.size) (h:¬(D.cap-D.size<j+s.size-f.now.size)∨¬((f.now.size:Int)<j+s.size)) :
  D.write n j s=if D.burns then (8,D.burn) else (0,if s.size=0 then D.burn else D.burn.put n f j s):=by
 unfold DiskS.write DiskS.doing
 rw[hd,hf]
 simp only[Bool.false_eq_true,if_false]
 rw[if_neg (by omega),if_neg (by omega)]
 rfl
end
section
variable {w w' w1:World} {p mb:Nat} {wv wv':Value} {D:DiskS} {F:Nat→Prop}
theorem DiskIn.written (h:DiskIn w p mb wv D) {n s:ByteArray} {f:FileS} (hf:D.find n=some f) (j:Nat) :
  DiskIn (w.setCell ⟨f.blk,1,none⟩ (.string (laid f.now j s))) p mb wv (D.turn n (putF j s)) :=
 h.fileTo hf ((Keeps.refl (· = f.blk) w).setCell (p:=⟨f.blk,1,none⟩) (.inl rfl) _) (fun _=>⟨rfl,rfl⟩) (heap_set (h.files f (find_some hf).1) 1 _)
set_option maxHeartbeats 8000000 in
theorem Write_full (n s:ByteArray) (j:Nat) (f:FileS) (w:World) (h:DiskAt w p D F) (hleft:D.left≤9223372036854775807) (hwl:D.waits.length≤1000000) (hsz:D.size≤1000000000) (hs:s.size≤1000000000) (hcap:0≤D.cap∧D.cap≤16777216)
  (hd:D.down=false) (hf:D.find n=some f) (hnow:f.now.size≤1000000000) (hj:j≤f.now.size) (t1:decide (D.cap-D.size<j+s.size-f.now.size)=true) (t2:decide ((f.now.size:Int)<j+s.size)=true)  :
  Calls Tryz.prog 89 #[ptrTo p,.string n,.int .i64 j,.string s] w (OpDone (7,D) p F w):=by
 obtain⟨mb,wv,h,rfl⟩:=h
 have hcalm:Calm w (w.alloc (.cells #[.string n] 9)):=(Calm.refl w).alloc _
 have h1:=h.calm hcalm
 obtain⟨c0,c1,c2,c3,c4⟩:=h1.cells
 have hlook:=h1.look n
 have Hb:=box (bars_any (p:=p) (mb:=mb) (wv:=wv) (D:=D) (.slice (some ⟨w.heap.size,0,none⟩) 1 1) [n] (w.alloc (.cells #[.string n] 9)) h1 (StrsAt.one (by go_cell)) (by simp))
 have H1:=box h1
 have Hwl:=box hwl
 have Hsz:=box hsz
 have Hcap:=box hcap
 have Hcalm:=box hcalm
 have hh:D.has n=true:=by unfold DiskS.has;rw[hf];rfl
 have hp:=ptr_some hf
 obtain⟨d0,d1,d2,d3⟩:=h1.file hf
 have hfl:f.blk<(w.alloc (.cells #[.string n] 9)).heap.size:=heap_lt (h1.files f (find_some hf).1)
 have hb2:=box (show D.bars [n]=0 by rw[bars_one,hd,hh];rfl)
 rw[hp]at hlook
 have hj0:decide ((j:Int)<0)=false:=decide_eq_false (by omega)
 have hj1:decide ((f.now.size:Int)<j)=false:=decide_eq_false (by omega)
 have q1:IntKind.i64.wrap ((j:Int)+s.size)=j+s.size:=IntWalk.i64_in _ (by omega)
 have q2:IntKind.i64.wrap ((j:Int)+s.size-f.now.size)=j+s.size-f.now.size:=IntWalk.i64_in _ (by omega)
 have Hroom:=box (fun W (hc:Calm (w.alloc (.cells #[.string n] 9)) W)=>Room_any (F:=foot p mb wv D) W ⟨mb,wv,H1.out.calm hc,rfl⟩ (by have:=Hsz.out;omega) Hcap.out)
 have Hf2:=box (show D.burn.find n=some f by rw[burn_find];exact hf)
 have Hl:=box (fun W=>laid_any f.now s j W hnow hs (by omega))
 clear h1 hf hh hd hp hsz hs hnow hwl hcalm h hcap
 go_enter Tryz.func89,Tryz.ntmps89
 go_wp2_with fail
 refine Hb.out.mono ?_
 rw[hb2.out]
 rintro e w' ⟨rfl,rfl⟩
 go_wp2_with fail
 refine wp_region_held_drew (S:=fun w'=>w'.cell? ⟨f.blk,1,none⟩=some (.string f.now)) (by kernel_rfl) (by go_keep) (fun hHeld=>?_)
 (refine tk 0 ?_;refine tk 1 ?_;refine tk 2 ?_;refine tk 3 ?_;refine tk 4 ?_;refine tk 5 ?_;refine tk 6 ?_;refine tk 7 ?_;refine tk 8 ?_;refine tk 9 ?_;refine tk 10 ?_)
 refine wpAnyH_ready (rs:=[11]) (by kernel_rfl) (by simp) ?_
 refine AllReadyH.cons rfl (fun K hK=>?_) AllReadyH.nil
 rw[if_pos (by rfl)]
 go_simp
 refine(Hroom.out _ (by exact cm)).mono ?_
 rintro e w' ⟨rfl,hb⟩
 go_wp2_with fail
 refine hK.out _ _ ?_ (fun hHeld2=>?_)
 ·show w'.cell? ⟨f.blk,1,none⟩=some (.string f.now)
  rw[hb.cell (p:=⟨f.blk,1,none⟩) hfl];assumption
 clear hK K
 try simp only[List.getElem_toArray,List.getElem_cons_succ,List.getElem_cons_zero,Act.put,List.setIfInBounds_toArray,List.set_cons_zero,List.set_cons_succ]
 (refine tk 12 ?_;refine tk 13 ?_;refine tk 14 ?_;refine tk 15 ?_;refine tk 16 ?_;refine tk 17 ?_;refine tk 18 ?_;refine tk 19 ?_;refine tk 20 ?_;refine tk 21 ?_;refine tk 22 ?_;refine tk 23 ?_;refine tk 24 ?_;refine tk 25 ?_)
 refine wpAnyH_done (by kernel_rfl) ?_ _
 have hcW:Calm (w.alloc (.cells #[.string n] 9)) w':=by exact cm
 have HcW:=box hcW
 clear hcW
 go_wp2_with fail
 go_ret
 exact OpDone.of rfl ⟨mb,wv,H1.out.calm HcW.out,rfl⟩ (Step.of_calm (Hcalm.out.trans HcW.out))
set_option maxHeartbeats 8000000 in
theorem Write_burnF (n s:ByteArray) (j:Nat) (f:FileS) (w:World) (h:DiskAt w p D F) (hleft:D.left≤9223372036854775807) (hwl:D.waits.length≤1000000) (hsz:D.size≤1000000000) (hs:s.size≤1000000000) (hcap:0≤D.cap∧D.cap≤16777216)
  (hd:D.down=false) (hf:D.find n=some f) (hnow:f.now.size≤1000000000) (hj:j≤f.now.size) (t1:decide (D.cap-D.size<j+s.size-f.now.size)=false) (hbn:D.burns=true) :
  Calls Tryz.prog 89 #[ptrTo p,.string n,.int .i64 j,.string s] w (OpDone (8,D.burn) p F w):=by
 have Hbn:=box hbn
 clear hbn
 obtain⟨mb,wv,h,rfl⟩:=h
 have hcalm:Calm w (w.alloc (.cells #[.string n] 9)):=(Calm.refl w).alloc _
 have h1:=h.calm hcalm
 obtain⟨c0,c1,c2,c3,c4⟩:=h1.cells
 have hlook:=h1.look n
 have Hb:=box (bars_any (p:=p) (mb:=mb) (wv:=wv) (D:=D) (.slice (some ⟨w.heap.size,0,none⟩) 1 1) [n] (w.alloc (.cells #[.string n] 9)) h1 (StrsAt.one (by go_cell)) (by simp))
 have H1:=box h1
 have Hwl:=box hwl
 have Hsz:=box hsz
 have Hcap:=box hcap
 have Hcalm:=box hcalm
 have hh:D.has n=true:=by unfold DiskS.has;rw[hf];rfl
 have hp:=ptr_some hf
 obtain⟨d0,d1,d2,d3⟩:=h1.file hf
 have hfl:f.blk<(w.alloc (.cells #[.string n] 9)).heap.size:=heap_lt (h1.files f (find_some hf).1)
 have hb2:=box (show D.bars [n]=0 by rw[bars_one,hd,hh];rfl)
 rw[hp]at hlook
 have hj0:decide ((j:Int)<0)=false:=decide_eq_false (by omega)
 have hj1:decide ((f.now.size:Int)<j)=false:=decide_eq_false (by omega)
 have q1:IntKind.i64.wrap ((j:Int)+s.size)=j+s.size:=IntWalk.i64_in _ (by omega)
 have q2:IntKind.i64.wrap ((j:Int)+s.size-f.now.size)=j+s.size-f.now.size:=IntWalk.i64_in _ (by omega)
 have Hroom:=box (fun W (hc:Calm (w.alloc (.cells #[.string n] 9)) W)=>Room_any (F:=foot p mb wv D) W ⟨mb,wv,H1.out.calm hc,rfl⟩ (by have:=Hsz.out;omega) Hcap.out)
 have Hf2:=box (show D.burn.find n=some f by rw[burn_find];exact hf)
 have Hl:=box (fun W=>laid_any f.now s j W hnow hs (by omega))
 clear h1 hf hh hd hp hsz hs hnow hwl hcalm h hcap
 go_enter Tryz.func89,Tryz.ntmps89
 go_wp2_with fail
 refine Hb.out.mono ?_
 rw[hb2.out]
 rintro e w' ⟨rfl,rfl⟩
 go_wp2_with fail
 refine wp_region_held_drew (S:=fun w'=>w'.cell? ⟨f.blk,1,none⟩=some (.string f.now)) (by kernel_rfl) (by go_keep) (fun hHeld=>?_)
 (refine tk 0 ?_;refine tk 1 ?_;refine tk 2 ?_;refine tk 3 ?_;refine tk 4 ?_;refine tk 5 ?_;refine tk 6 ?_;refine tk 7 ?_;refine tk 8 ?_;refine tk 9 ?_;refine tk 10 ?_)
 refine wpAnyH_ready (rs:=[11]) (by kernel_rfl) (by simp) ?_
 refine AllReadyH.cons rfl (fun K hK=>?_) AllReadyH.nil
 rw[if_pos (by rfl)]
 go_simp
 refine(Hroom.out _ (by exact cm)).mono ?_
 rintro e w' ⟨rfl,hb⟩
 go_wp2_with fail
 refine hK.out _ _ ?_ (fun hHeld2=>?_)
 ·show w'.cell? ⟨f.blk,1,none⟩=some (.string f.now)
  rw[hb.cell (p:=⟨f.blk,1,none⟩) hfl];assumption
 clear hK K
 try simp only[List.getElem_toArray,List.getElem_cons_succ,List.getElem_cons_zero,Act.put,List.setIfInBounds_toArray,List.set_cons_zero,List.set_cons_succ]
 (refine tk 12 ?_;refine tk 13 ?_)
 (refine sk 14 ?_;refine sk 15 ?_;refine sk 16 ?_;refine sk 17 ?_;refine sk 18 ?_;refine sk 19 ?_;refine sk 20 ?_;refine sk 21 ?_;refine sk 22 ?_;refine sk 23 ?_)
 (refine tk 24 ?_;refine tk 25 ?_)
 refine wpAnyH_done (by kernel_rfl) ?_ _
 have hcW:Calm (w.alloc (.cells #[.string n] 9)) w':=by exact cm
 have HcW:=box hcW
 clear hcW
 go_wp2_with fail
 refine(done_any _ (H1.out.calm HcW.out) hleft).mono ?_
 rw[Hbn.out]
 rintro e w2 ⟨rfl,hN⟩
 have HS:=box (show Step (foot p mb wv D) w (foot p mb wv D.burn) w2 by rw[foot_burn];exact(Step.of_calm (Hcalm.out.trans HcW.out)).trans (hN.step (.inl rfl)))
 have HN:=box hN
 clear hN
 go_wp2_with fail
 go_ret
 exact OpDone.of rfl ⟨mb,wv,HN.out.disk,rfl⟩ HS.out
set_option maxHeartbeats 8000000 in
theorem Write_burnTF (n s:ByteArray) (j:Nat) (f:FileS) (w:World) (h:DiskAt w p D F) (hleft:D.left≤9223372036854775807) (hwl:D.waits.length≤1000000) (hsz:D.size≤1000000000) (hs:s.size≤1000000000) (hcap:0≤D.cap∧D.cap≤16777216)
  (hd:D.down=false) (hf:D.find n=some f) (hnow:f.now.size≤1000000000) (hj:j≤f.now.size) (t1:decide (D.cap-D.size<j+s.size-f.now.size)=true) (t2:decide ((f.now.size:Int)<j+s.size)=false) (hbn:D.burns=true) :
  Calls Tryz.prog 89 #[ptrTo p,.string n,.int .i64 j,.string s] w (OpDone (8,D.burn) p F w):=by
 have Hbn:=box hbn
 clear hbn
 obtain⟨mb,wv,h,rfl⟩:=h
 have hcalm:Calm w (w.alloc (.cells #[.string n] 9)):=(Calm.refl w).alloc _
 have h1:=h.calm hcalm
 obtain⟨c0,c1,c2,c3,c4⟩:=h1.cells
 have hlook:=h1.look n
 have Hb:=box (bars_any (p:=p) (mb:=mb) (wv:=wv) (D:=D) (.slice (some ⟨w.heap.size,0,none⟩) 1 1) [n] (w.alloc (.cells #[.string n] 9)) h1 (StrsAt.one (by go_cell)) (by simp))
 have H1:=box h1
 have Hwl:=box hwl
 have Hsz:=box hsz
 have Hcap:=box hcap
 have Hcalm:=box hcalm
 have hh:D.has n=true:=by unfold DiskS.has;rw[hf];rfl
 have hp:=ptr_some hf
 obtain⟨d0,d1,d2,d3⟩:=h1.file hf
 have hfl:f.blk<(w.alloc (.cells #[.string n] 9)).heap.size:=heap_lt (h1.files f (find_some hf).1)
 have hb2:=box (show D.bars [n]=0 by rw[bars_one,hd,hh];rfl)
 rw[hp]at hlook
 have hj0:decide ((j:Int)<0)=false:=decide_eq_false (by omega)
 have hj1:decide ((f.now.size:Int)<j)=false:=decide_eq_false (by omega)
 have q1:IntKind.i64.wrap ((j:Int)+s.size)=j+s.size:=IntWalk.i64_in _ (by omega)
 have q2:IntKind.i64.wrap ((j:Int)+s.size-f.now.size)=j+s.size-f.now.size:=IntWalk.i64_in _ (by omega)
 have Hroom:=box (fun W (hc:Calm (w.alloc (.cells #[.string n] 9)) W)=>Room_any (F:=foot p mb wv D) W ⟨mb,wv,H1.out.calm hc,rfl⟩ (by have:=Hsz.out;omega) Hcap.out)
 have Hf2:=box (show D.burn.find n=some f by rw[burn_find];exact hf)
 have Hl:=box (fun W=>laid_any f.now s j W hnow hs (by omega))
 clear h1 hf hh hd hp hsz hs hnow hwl hcalm h hcap
 go_enter Tryz.func89,Tryz.ntmps89
 go_wp2_with fail
 refine Hb.out.mono ?_
 rw[hb2.out]
 rintro e w' ⟨rfl,rfl⟩
 go_wp2_with fail
 refine wp_region_held_drew (S:=fun w'=>w'.cell? ⟨f.blk,1,none⟩=some (.string f.now)) (by kernel_rfl) (by go_keep) (fun hHeld=>?_)
 (refine tk 0 ?_;refine tk 1 ?_;refine tk 2 ?_;refine tk 3 ?_;refine tk 4 ?_;refine tk 5 ?_;refine tk 6 ?_;refine tk 7 ?_;refine tk 8 ?_;refine tk 9 ?_;refine tk 10 ?_)
 refine wpAnyH_ready (rs:=[11]) (by kernel_rfl) (by simp) ?_
 refine AllReadyH.cons rfl (fun K hK=>?_) AllReadyH.nil
 rw[if_pos (by rfl)]
 go_simp
 refine(Hroom.out _ (by exact cm)).mono ?_
 rintro e w' ⟨rfl,hb⟩
 go_wp2_with fail
 refine hK.out _ _ ?_ (fun hHeld2=>?_)
 ·show w'.cell? ⟨f.blk,1,none⟩=some (.string f.now)
  rw[hb.cell (p:=⟨f.blk,1,none⟩) hfl];assumption
 clear hK K
 try simp only[List.getElem_toArray,List.getElem_cons_succ,List.getElem_cons_zero,Act.put,List.setIfInBounds_toArray,List.set_cons_zero,List.set_cons_succ]
 (refine tk 12 ?_;refine tk 13 ?_;refine tk 14 ?_;refine tk 15 ?_;refine tk 16 ?_;refine tk 17 ?_;refine tk 18 ?_;refine tk 19 ?_;refine tk 20 ?_;refine tk 21 ?_;refine tk 22 ?_;refine tk 23 ?_;refine tk 24 ?_;refine tk 25 ?_)
 refine wpAnyH_done (by kernel_rfl) ?_ _
 have hcW:Calm (w.alloc (.cells #[.string n] 9)) w':=by exact cm
 have HcW:=box hcW
 clear hcW
 go_wp2_with fail
 refine(done_any _ (H1.out.calm HcW.out) hleft).mono ?_
 rw[Hbn.out]
 rintro e w2 ⟨rfl,hN⟩
 have HS:=box (show Step (foot p mb wv D) w (foot p mb wv D.burn) w2 by rw[foot_burn];exact(Step.of_calm (Hcalm.out.trans HcW.out)).trans (hN.step (.inl rfl)))
 have HN:=box hN
 clear hN
 go_wp2_with fail
 go_ret
 exact OpDone.of rfl ⟨mb,wv,HN.out.disk,rfl⟩ HS.out
set_option maxHeartbeats 8000000 in
theorem Write_emptyF (n s:ByteArray) (j:Nat) (f:FileS) (w:World) (h:DiskAt w p D F) (hleft:D.left≤9223372036854775807) (hwl:D.waits.length≤1000000) (hsz:D.size≤1000000000) (hs:s.size≤1000000000) (hcap:0≤D.cap∧D.cap≤16777216)
  (hd:D.down=false) (hf:D.find n=some f) (hnow:f.now.size≤1000000000) (hj:j≤f.now.size) (t1:decide (D.cap-D.size<j+s.size-f.now.size)=false) (hbn:D.burns=false) (hs0:s.size=0) :
  Calls Tryz.prog 89 #[ptrTo p,.string n,.int .i64 j,.string s] w (OpDone (0,D.burn) p F w):=by
 have Hbn:=box hbn
 have he:s.toList=[]:=by rw[Lib.toList_data];exact List.eq_nil_of_length_eq_zero (by simpa using hs0)
 clear hbn hs0
 obtain⟨mb,wv,h,rfl⟩:=h
 have hcalm:Calm w (w.alloc (.cells #[.string n] 9)):=(Calm.refl w).alloc _
 have h1:=h.calm hcalm
 obtain⟨c0,c1,c2,c3,c4⟩:=h1.cells
 have hlook:=h1.look n
 have Hb:=box (bars_any (p:=p) (mb:=mb) (wv:=wv) (D:=D) (.slice (some ⟨w.heap.size,0,none⟩) 1 1) [n] (w.alloc (.cells #[.string n] 9)) h1 (StrsAt.one (by go_cell)) (by simp))
 have H1:=box h1
 have Hwl:=box hwl
 have Hsz:=box hsz
 have Hcap:=box hcap
 have Hcalm:=box hcalm
 have hh:D.has n=true:=by unfold DiskS.has;rw[hf];rfl
 have hp:=ptr_some hf
 obtain⟨d0,d1,d2,d3⟩:=h1.file hf
 have hfl:f.blk<(w.alloc (.cells #[.string n] 9)).heap.size:=heap_lt (h1.files f (find_some hf).1)
 have hb2:=box (show D.bars [n]=0 by rw[bars_one,hd,hh];rfl)
 rw[hp]at hlook
 have hj0:decide ((j:Int)<0)=false:=decide_eq_false (by omega)
 have hj1:decide ((f.now.size:Int)<j)=false:=decide_eq_false (by omega)
 have q1:IntKind.i64.wrap ((j:Int)+s.size)=j+s.size:=IntWalk.i64_in _ (by omega)
 have q2:IntKind.i64.wrap ((j:Int)+s.size-f.now.size)=j+s.size-f.now.size:=IntWalk.i64_in _ (by omega)
 have Hroom:=box (fun W (hc:Calm (w.alloc (.cells #[.string n] 9)) W)=>Room_any (F:=foot p mb wv D) W ⟨mb,wv,H1.out.calm hc,rfl⟩ (by have:=Hsz.out;omega) Hcap.out)
 have Hf2:=box (show D.burn.find n=some f by rw[burn_find];exact hf)
 have Hl:=box (fun W=>laid_any f.now s j W hnow hs (by omega))
 clear h1 hf hh hd hp hsz hs hnow hwl hcalm h hcap
 go_enter Tryz.func89,Tryz.ntmps89
 go_wp2_with fail
 refine Hb.out.mono ?_
 rw[hb2.out]
 rintro e w' ⟨rfl,rfl⟩
 go_wp2_with fail
 refine wp_region_held_drew (S:=fun w'=>w'.cell? ⟨f.blk,1,none⟩=some (.string f.now)) (by kernel_rfl) (by go_keep) (fun hHeld=>?_)
 (refine tk 0 ?_;refine tk 1 ?_;refine tk 2 ?_;refine tk 3 ?_;refine tk 4 ?_;refine tk 5 ?_;refine tk 6 ?_;refine tk 7 ?_;refine tk 8 ?_;refine tk 9 ?_;refine tk 10 ?_)
 refine wpAnyH_ready (rs:=[11]) (by kernel_rfl) (by simp) ?_
 refine AllReadyH.cons rfl (fun K hK=>?_) AllReadyH.nil
 rw[if_pos (by rfl)]
 go_simp
 refine(Hroom.out _ (by exact cm)).mono ?_
 rintro e w' ⟨rfl,hb⟩
 go_wp2_with fail
 refine hK.out _ _ ?_ (fun hHeld2=>?_)
 ·show w'.cell? ⟨f.blk,1,none⟩=some (.string f.now)
  rw[hb.cell (p:=⟨f.blk,1,none⟩) hfl];assumption
 clear hK K
 try simp only[List.getElem_toArray,List.getElem_cons_succ,List.getElem_cons_zero,Act.put,List.setIfInBounds_toArray,List.set_cons_zero,List.set_cons_succ]
 (refine tk 12 ?_;refine tk 13 ?_)
 (refine sk 14 ?_;refine sk 15 ?_;refine sk 16 ?_;refine sk 17 ?_;refine sk 18 ?_;refine sk 19 ?_;refine sk 20 ?_;refine sk 21 ?_;refine sk 22 ?_;refine sk 23 ?_)
 (refine tk 24 ?_;refine tk 25 ?_)
 refine wpAnyH_done (by kernel_rfl) ?_ _
 have hcW:Calm (w.alloc (.cells #[.string n] 9)) w':=by exact cm
 have HcW:=box hcW
 clear hcW
 go_wp2_with fail
 refine(done_any _ (H1.out.calm HcW.out) hleft).mono ?_
 rw[Hbn.out]
 rintro e w2 ⟨rfl,hN⟩
 have HS:=box (show Step (foot p mb wv D) w (foot p mb wv D.burn) w2 by rw[foot_burn];exact(Step.of_calm (Hcalm.out.trans HcW.out)).trans (hN.step (.inl rfl)))
 have HN:=box hN
 clear hN
 go_wp2_with fail
 go_ret
 exact OpDone.of rfl ⟨mb,wv,HN.out.disk,rfl⟩ HS.out
set_option maxHeartbeats 8000000 in
theorem Write_emptyTF (n s:ByteArray) (j:Nat) (f:FileS) (w:World) (h:DiskAt w p D F) (hleft:D.left≤9223372036854775807) (hwl:D.waits.length≤1000000) (hsz:D.size≤1000000000) (hs:s.size≤1000000000) (hcap:0≤D.cap∧D.cap≤16777216)
  (hd:D.down=false) (hf:D.find n=some f) (hnow:f.now.size≤1000000000) (hj:j≤f.now.size) (t1:decide (D.cap-D.size<j+s.size-f.now.size)=true) (t2:decide ((f.now.size:Int)<j+s.size)=false) (hbn:D.burns=false) (hs0:s.size=0) :
  Calls Tryz.prog 89 #[ptrTo p,.string n,.int .i64 j,.string s] w (OpDone (0,D.burn) p F w):=by
 have Hbn:=box hbn
 have he:s.toList=[]:=by rw[Lib.toList_data];exact List.eq_nil_of_length_eq_zero (by simpa using hs0)
 clear hbn hs0
 obtain⟨mb,wv,h,rfl⟩:=h
 have hcalm:Calm w (w.alloc (.cells #[.string n] 9)):=(Calm.refl w).alloc _
 have h1:=h.calm hcalm
 obtain⟨c0,c1,c2,c3,c4⟩:=h1.cells
 have hlook:=h1.look n
 have Hb:=box (bars_any (p:=p) (mb:=mb) (wv:=wv) (D:=D) (.slice (some ⟨w.heap.size,0,none⟩) 1 1) [n] (w.alloc (.cells #[.string n] 9)) h1 (StrsAt.one (by go_cell)) (by simp))
 have H1:=box h1
 have Hwl:=box hwl
 have Hsz:=box hsz
 have Hcap:=box hcap
 have Hcalm:=box hcalm
 have hh:D.has n=true:=by unfold DiskS.has;rw[hf];rfl
 have hp:=ptr_some hf
 obtain⟨d0,d1,d2,d3⟩:=h1.file hf
 have hfl:f.blk<(w.alloc (.cells #[.string n] 9)).heap.size:=heap_lt (h1.files f (find_some hf).1)
 have hb2:=box (show D.bars [n]=0 by rw[bars_one,hd,hh];rfl)
 rw[hp]at hlook
 have hj0:decide ((j:Int)<0)=false:=decide_eq_false (by omega)
 have hj1:decide ((f.now.size:Int)<j)=false:=decide_eq_false (by omega)
 have q1:IntKind.i64.wrap ((j:Int)+s.size)=j+s.size:=IntWalk.i64_in _ (by omega)
 have q2:IntKind.i64.wrap ((j:Int)+s.size-f.now.size)=j+s.size-f.now.size:=IntWalk.i64_in _ (by omega)
 have Hroom:=box (fun W (hc:Calm (w.alloc (.cells #[.string n] 9)) W)=>Room_any (F:=foot p mb wv D) W ⟨mb,wv,H1.out.calm hc,rfl⟩ (by have:=Hsz.out;omega) Hcap.out)
 have Hf2:=box (show D.burn.find n=some f by rw[burn_find];exact hf)
 have Hl:=box (fun W=>laid_any f.now s j W hnow hs (by omega))
 clear h1 hf hh hd hp hsz hs hnow hwl hcalm h hcap
 go_enter Tryz.func89,Tryz.ntmps89
 go_wp2_with fail
 refine Hb.out.mono ?_
 rw[hb2.out]
 rintro e w' ⟨rfl,rfl⟩
 go_wp2_with fail
 refine wp_region_held_drew (S:=fun w'=>w'.cell? ⟨f.blk,1,none⟩=some (.string f.now)) (by kernel_rfl) (by go_keep) (fun hHeld=>?_)
 (refine tk 0 ?_;refine tk 1 ?_;refine tk 2 ?_;refine tk 3 ?_;refine tk 4 ?_;refine tk 5 ?_;refine tk 6 ?_;refine tk 7 ?_;refine tk 8 ?_;refine tk 9 ?_;refine tk 10 ?_)
 refine wpAnyH_ready (rs:=[11]) (by kernel_rfl) (by simp) ?_
 refine AllReadyH.cons rfl (fun K hK=>?_) AllReadyH.nil
 rw[if_pos (by rfl)]
 go_simp
 refine(Hroom.out _ (by exact cm)).mono ?_
 rintro e w' ⟨rfl,hb⟩
 go_wp2_with fail
 refine hK.out _ _ ?_ (fun hHeld2=>?_)
 ·show w'.cell? ⟨f.blk,1,none⟩=some (.string f.now)
  rw[hb.cell (p:=⟨f.blk,1,none⟩) hfl];assumption
 clear hK K
 try simp only[List.getElem_toArray,List.getElem_cons_succ,List.getElem_cons_zero,Act.put,List.setIfInBounds_toArray,List.set_cons_zero,List.set_cons_succ]
 (refine tk 12 ?_;refine tk 13 ?_;refine tk 14 ?_;refine tk 15 ?_;refine tk 16 ?_;refine tk 17 ?_;refine tk 18 ?_;refine tk 19 ?_;refine tk 20 ?_;refine tk 21 ?_;refine tk 22 ?_;refine tk 23 ?_;refine tk 24 ?_;refine tk 25 ?_)
 refine wpAnyH_done (by kernel_rfl) ?_ _
 have hcW:Calm (w.alloc (.cells #[.string n] 9)) w':=by exact cm
 have HcW:=box hcW
 clear hcW
 go_wp2_with fail
 refine(done_any _ (H1.out.calm HcW.out) hleft).mono ?_
 rw[Hbn.out]
 rintro e w2 ⟨rfl,hN⟩
 have HS:=box (show Step (foot p mb wv D) w (foot p mb wv D.burn) w2 by rw[foot_burn];exact(Step.of_calm (Hcalm.out.trans HcW.out)).trans (hN.step (.inl rfl)))
 have HN:=box hN
 clear hN
 go_wp2_with fail
 go_ret
 exact OpDone.of rfl ⟨mb,wv,HN.out.disk,rfl⟩ HS.out
end
section
variable {w w' w1:World} {p mb:Nat} {wv wv':Value} {D:DiskS} {F:Nat→Prop}
set_option maxHeartbeats 8000000 in
theorem Write_putF (n s:ByteArray) (j:Nat) (f:FileS) (w:World) (h:DiskAt w p D F) (hleft:D.left≤9223372036854775807) (hwl:D.waits.length≤1000000) (hsz:D.size≤1000000000) (hs:s.size≤1000000000) (hcap:0≤D.cap∧D.cap≤16777216)
  (hd:D.down=false) (hf:D.find n=some f) (hnow:f.now.size≤1000000000) (hj:j≤f.now.size) (t1:decide (D.cap-D.size<j+s.size-f.now.size)=false) (hbn:D.burns=false) (hs0:s.size≠0) :
  Calls Tryz.prog 89 #[ptrTo p,.string n,.int .i64 j,.string s] w (OpDone (0,D.burn.put n f j s) p F w):=by
 have Hbn:=box hbn
 have he:s.toList.isEmpty=false:=by rw[Lib.toList_data,List.isEmpty_eq_false_iff];intro h;apply hs0;simpa using congrArg List.length h
 clear hbn hs0
 obtain⟨mb,wv,h,rfl⟩:=h
 have hcalm:Calm w (w.alloc (.cells #[.string n] 9)):=(Calm.refl w).alloc _
 have h1:=h.calm hcalm
 obtain⟨c0,c1,c2,c3,c4⟩:=h1.cells
 have hlook:=h1.look n
 have Hb:=box (bars_any (p:=p) (mb:=mb) (wv:=wv) (D:=D) (.slice (some ⟨w.heap.size,0,none⟩) 1 1) [n] (w.alloc (.cells #[.string n] 9)) h1 (StrsAt.one (by go_cell)) (by simp))
 have H1:=box h1
 have Hwl:=box hwl
 have Hsz:=box hsz
 have Hcap:=box hcap
 have Hcalm:=box hcalm
 have hh:D.has n=true:=by unfold DiskS.has;rw[hf];rfl
 have hp:=ptr_some hf
 obtain⟨d0,d1,d2,d3⟩:=h1.file hf
 have hfl:f.blk<(w.alloc (.cells #[.string n] 9)).heap.size:=heap_lt (h1.files f (find_some hf).1)
 have hb2:=box (show D.bars [n]=0 by rw[bars_one,hd,hh];rfl)
 rw[hp]at hlook
 have hj0:decide ((j:Int)<0)=false:=decide_eq_false (by omega)
 have hj1:decide ((f.now.size:Int)<j)=false:=decide_eq_false (by omega)
 have q1:IntKind.i64.wrap ((j:Int)+s.size)=j+s.size:=IntWalk.i64_in _ (by omega)
 have q2:IntKind.i64.wrap ((j:Int)+s.size-f.now.size)=j+s.size-f.now.size:=IntWalk.i64_in _ (by omega)
 have Hroom:=box (fun W (hc:Calm (w.alloc (.cells #[.string n] 9)) W)=>Room_any (F:=foot p mb wv D) W ⟨mb,wv,H1.out.calm hc,rfl⟩ (by have:=Hsz.out;omega) Hcap.out)
 have Hf2:=box (show D.burn.find n=some f by rw[burn_find];exact hf)
 have Hl:=box (fun W=>laid_any f.now s j W hnow hs (by omega))
 clear h1 hf hh hd hp hsz hs hnow hwl hcalm h hcap
 go_enter Tryz.func89,Tryz.ntmps89
 go_wp2_with fail
 refine Hb.out.mono ?_
 rw[hb2.out]
 rintro e w' ⟨rfl,rfl⟩
 go_wp2_with fail
 refine wp_region_held_drew (S:=fun w'=>w'.cell? ⟨f.blk,1,none⟩=some (.string f.now)) (by kernel_rfl) (by go_keep) (fun hHeld=>?_)
 (refine tk 0 ?_;refine tk 1 ?_;refine tk 2 ?_;refine tk 3 ?_;refine tk 4 ?_;refine tk 5 ?_;refine tk 6 ?_;refine tk 7 ?_;refine tk 8 ?_;refine tk 9 ?_;refine tk 10 ?_)
 refine wpAnyH_ready (rs:=[11]) (by kernel_rfl) (by simp) ?_
 refine AllReadyH.cons rfl (fun K hK=>?_) AllReadyH.nil
 rw[if_pos (by rfl)]
 go_simp
 refine(Hroom.out _ (by exact cm)).mono ?_
 rintro e w' ⟨rfl,hb⟩
 go_wp2_with fail
 refine hK.out _ _ ?_ (fun hHeld2=>?_)
 ·show w'.cell? ⟨f.blk,1,none⟩=some (.string f.now)
  rw[hb.cell (p:=⟨f.blk,1,none⟩) hfl];assumption
 clear hK K
 try simp only[List.getElem_toArray,List.getElem_cons_succ,List.getElem_cons_zero,Act.put,List.setIfInBounds_toArray,List.set_cons_zero,List.set_cons_succ]
 (refine tk 12 ?_;refine tk 13 ?_)
 (refine sk 14 ?_;refine sk 15 ?_;refine sk 16 ?_;refine sk 17 ?_;refine sk 18 ?_;refine sk 19 ?_;refine sk 20 ?_;refine sk 21 ?_;refine sk 22 ?_;refine sk 23 ?_)
 (refine tk 24 ?_;refine tk 25 ?_)
 refine wpAnyH_done (by kernel_rfl) ?_ _
 have hcW:Calm (w.alloc (.cells #[.string n] 9)) w':=by exact cm
 have HcW:=box hcW
 clear hcW
 go_wp2_with fail
 refine(done_any _ (H1.out.calm HcW.out) hleft).mono ?_
 rw[Hbn.out]
 rintro e w2 ⟨rfl,hN⟩
 have HS:=box (show Step (foot p mb wv D) w (foot p mb wv D.burn) w2 by rw[foot_burn];exact(Step.of_calm (Hcalm.out.trans HcW.out)).trans (hN.step (.inl rfl)))
 obtain⟨g0,g1,g2,g3⟩:=hN.disk.file Hf2.out
 have hfl2:f.blk<w2.heap.size:=heap_lt (hN.disk.files f (find_some Hf2.out).1)
 have HN:=box hN
 clear hN
 go_wp2_with fail
 refine(Hl.out _).mono ?_
 rintro e w3 ⟨rfl,hc3⟩
 have hD3:=HN.out.disk.calm hc3
 have hS3:=HS.out.calm hc3
 obtain⟨g0',g1',g2',g3'⟩:=hD3.file Hf2.out
 have hfl3:f.blk<w3.heap.size:=heap_lt (hD3.files f (find_some Hf2.out).1)
 have hD4:=hD3.written (s:=s) Hf2.out j
 have hm4:f∈D.burn.files:=(find_some Hf2.out).1
 have hS4:=hS3.trans (show Step (foot p mb wv D.burn) w3 (foot p mb wv D.burn) (w3.setCell ⟨f.blk,1,none⟩ (.string (laid f.now j s))) from ⟨(Keeps.refl _ w3).setCell (p:=⟨f.blk,1,none⟩) (.inl (.inr (.inr (.inr (List.mem_map.2 ⟨f,hm4,rfl⟩))))) _,fun _ h=>.inl h⟩)
 have hs4:(w3.setCell ⟨f.blk,1,none⟩ (.string (laid f.now j s))).heap.size=w3.heap.size:=by simp [World.setCell]
 have hD5:=hD4.calm ((Calm.refl _).alloc (.cells #[ptrTo f.blk,.int .i64 j,.string s] 133))
 have hb5:=heap_new (w3.setCell ⟨f.blk,1,none⟩ (.string (laid f.now j s))) (.cells #[ptrTo f.blk,.int .i64 j,.string s] 133)
 rw[hs4]at hb5
 have hwl5:(D.burn.turn n (putF j s)).waits.length≤1000000:=by rw[show (D.burn.turn n (putF j s)).waits=D.waits from burn_files.2.1];exact Hwl.out
 obtain⟨v',W6,Happ,hrow,hk6,hob⟩:=append_wait _ (D.burn.turn n (putF j s)).waits ⟨f.blk,j,s⟩ w3.heap.size hD5.waits hb5 hwl5 91
 obtain⟨a',n',cap',rfl⟩:=row_slice hrow
 have hp6:W6.heap[p]? = some (.cells (diskCells (D.burn.turn n (putF j s)) mb wv) 93 (0,0)):=(hk6.block p (heap_lt hD5.obj) hD5.p_ne_row).trans hD5.obj
 have k3:W6.cell? ⟨p,3,none⟩=some wv:=cell_of hp6 3
 have k4:=free_of hp6 3
 have hpl6:=heap_lt hp6
 have hnew:∀g,(Value.slice a' n' cap').ownBlock=some g→wv.ownBlock=some g∨((w3.setCell ⟨f.blk,1,none⟩ (.string (laid f.now j s))).alloc (.cells #[ptrTo f.blk,.int .i64 j,.string s] 133)).heap.size≤g:=fun g hg=>by
  rcases hob with h|h
  ·exact .inl (by rw[←h];exact hg)
  ·rw[h]at hg;cases hg;exact .inr (Nat.le_refl _)
 have hfin:=box (hD5.rowTo hk6 hrow hnew (fun x hx=>by
  rcases List.mem_append.1 hx with hx|hx
  ·exact hD5.live x hx
  ·rw[List.mem_singleton]at hx
   subst hx
   refine⟨putF j s f,?_,rfl⟩
   unfold DiskS.turn
   exact List.mem_map.2 ⟨f,hm4,if_pos (find_some Hf2.out).2⟩))
 have hS7:=box ((hS4.calm ((Calm.refl _).alloc (.cells #[ptrTo f.blk,.int .i64 j,.string s] 133))).trans (show Step (foot p mb wv D.burn) _ (foot p mb (.slice a' n' cap') (D.burn.put n f j s)) (W6.setCell ⟨p,3,none⟩ (.slice a' n' cap')) from ⟨(hk6.mono (fun b _ hb=>.inr (.inr (.inl hb)))).setCell (p:=⟨p,3,none⟩) (.inl (.inl rfl)) _,by
  rintro b (hb|hb|hb|hb)
  ·exact .inl (.inl hb)
  ·exact .inl (.inr (.inl hb))
  ·rcases hnew b hb with h|h
   ·exact .inl (.inr (.inr (.inl h)))
   ·exact .inr h
  ·refine .inl (.inr (.inr (.inr ?_)))
   rw[←(turn_same (n:=n) (g:=putF j s) (fun _=>⟨rfl,rfl⟩)).2]
   exact hb⟩))
 have Happ:=box Happ
 have d3c:w3.cell? ⟨p,3,none⟩=some wv:=hD3.cells.2.2.2.1
 have hpl3:=heap_lt hD3.obj
 have hpf:=hD3.p_ne_file hm4
 clear hD3 hS3 hD4 hS4 hD5 hb5 hrow hk6 hob hnew hp6 hc3 hs4 hwl5
 go_wp2_with (first|(at_builtin;refine Lib.wpList_append_run _ rfl _ _ _ _ rfl _ _ rfl rfl _ _ Happ.out ?_)|fail)
 go_ret
 exact OpDone.of rfl ⟨mb,_,hfin.out,rfl⟩ hS7.out
set_option maxHeartbeats 8000000 in
theorem Write_putTF (n s:ByteArray) (j:Nat) (f:FileS) (w:World) (h:DiskAt w p D F) (hleft:D.left≤9223372036854775807) (hwl:D.waits.length≤1000000) (hsz:D.size≤1000000000) (hs:s.size≤1000000000) (hcap:0≤D.cap∧D.cap≤16777216)
  (hd:D.down=false) (hf:D.find n=some f) (hnow:f.now.size≤1000000000) (hj:j≤f.now.size) (t1:decide (D.cap-D.size<j+s.size-f.now.size)=true) (t2:decide ((f.now.size:Int)<j+s.size)=false) (hbn:D.burns=false) (hs0:s.size≠0) :
  Calls Tryz.prog 89 #[ptrTo p,.string n,.int .i64 j,.string s] w (OpDone (0,D.burn.put n f j s) p F w):=by
 have Hbn:=box hbn
 have he:s.toList.isEmpty=false:=by rw[Lib.toList_data,List.isEmpty_eq_false_iff];intro h;apply hs0;simpa using congrArg List.length h
 clear hbn hs0
 obtain⟨mb,wv,h,rfl⟩:=h
 have hcalm:Calm w (w.alloc (.cells #[.string n] 9)):=(Calm.refl w).alloc _
 have h1:=h.calm hcalm
 obtain⟨c0,c1,c2,c3,c4⟩:=h1.cells
 have hlook:=h1.look n
 have Hb:=box (bars_any (p:=p) (mb:=mb) (wv:=wv) (D:=D) (.slice (some ⟨w.heap.size,0,none⟩) 1 1) [n] (w.alloc (.cells #[.string n] 9)) h1 (StrsAt.one (by go_cell)) (by simp))
 have H1:=box h1
 have Hwl:=box hwl
 have Hsz:=box hsz
 have Hcap:=box hcap
 have Hcalm:=box hcalm
 have hh:D.has n=true:=by unfold DiskS.has;rw[hf];rfl
 have hp:=ptr_some hf
 obtain⟨d0,d1,d2,d3⟩:=h1.file hf
 have hfl:f.blk<(w.alloc (.cells #[.string n] 9)).heap.size:=heap_lt (h1.files f (find_some hf).1)
 have hb2:=box (show D.bars [n]=0 by rw[bars_one,hd,hh];rfl)
 rw[hp]at hlook
 have hj0:decide ((j:Int)<0)=false:=decide_eq_false (by omega)
 have hj1:decide ((f.now.size:Int)<j)=false:=decide_eq_false (by omega)
 have q1:IntKind.i64.wrap ((j:Int)+s.size)=j+s.size:=IntWalk.i64_in _ (by omega)
 have q2:IntKind.i64.wrap ((j:Int)+s.size-f.now.size)=j+s.size-f.now.size:=IntWalk.i64_in _ (by omega)
 have Hroom:=box (fun W (hc:Calm (w.alloc (.cells #[.string n] 9)) W)=>Room_any (F:=foot p mb wv D) W ⟨mb,wv,H1.out.calm hc,rfl⟩ (by have:=Hsz.out;omega) Hcap.out)
 have Hf2:=box (show D.burn.find n=some f by rw[burn_find];exact hf)
 have Hl:=box (fun W=>laid_any f.now s j W hnow hs (by omega))
 clear h1 hf hh hd hp hsz hs hnow hwl hcalm h hcap
 go_enter Tryz.func89,Tryz.ntmps89
 go_wp2_with fail
 refine Hb.out.mono ?_
 rw[hb2.out]
 rintro e w' ⟨rfl,rfl⟩
 go_wp2_with fail
 refine wp_region_held_drew (S:=fun w'=>w'.cell? ⟨f.blk,1,none⟩=some (.string f.now)) (by kernel_rfl) (by go_keep) (fun hHeld=>?_)
 (refine tk 0 ?_;refine tk 1 ?_;refine tk 2 ?_;refine tk 3 ?_;refine tk 4 ?_;refine tk 5 ?_;refine tk 6 ?_;refine tk 7 ?_;refine tk 8 ?_;refine tk 9 ?_;refine tk 10 ?_)
 refine wpAnyH_ready (rs:=[11]) (by kernel_rfl) (by simp) ?_
 refine AllReadyH.cons rfl (fun K hK=>?_) AllReadyH.nil
 rw[if_pos (by rfl)]
 go_simp
 refine(Hroom.out _ (by exact cm)).mono ?_
 rintro e w' ⟨rfl,hb⟩
 go_wp2_with fail
 refine hK.out _ _ ?_ (fun hHeld2=>?_)
 ·show w'.cell? ⟨f.blk,1,none⟩=some (.string f.now)
  rw[hb.cell (p:=⟨f.blk,1,none⟩) hfl];assumption
 clear hK K
 try simp only[List.getElem_toArray,List.getElem_cons_succ,List.getElem_cons_zero,Act.put,List.setIfInBounds_toArray,List.set_cons_zero,List.set_cons_succ]
 (refine tk 12 ?_;refine tk 13 ?_;refine tk 14 ?_;refine tk 15 ?_;refine tk 16 ?_;refine tk 17 ?_;refine tk 18 ?_;refine tk 19 ?_;refine tk 20 ?_;refine tk 21 ?_;refine tk 22 ?_;refine tk 23 ?_;refine tk 24 ?_;refine tk 25 ?_)
 refine wpAnyH_done (by kernel_rfl) ?_ _
 have hcW:Calm (w.alloc (.cells #[.string n] 9)) w':=by exact cm
 have HcW:=box hcW
 clear hcW
 go_wp2_with fail
 refine(done_any _ (H1.out.calm HcW.out) hleft).mono ?_
 rw[Hbn.out]
 rintro e w2 ⟨rfl,hN⟩
 have HS:=box (show Step (foot p mb wv D) w (foot p mb wv D.burn) w2 by rw[foot_burn];exact(Step.of_calm (Hcalm.out.trans HcW.out)).trans (hN.step (.inl rfl)))
 obtain⟨g0,g1,g2,g3⟩:=hN.disk.file Hf2.out
 have hfl2:f.blk<w2.heap.size:=heap_lt (hN.disk.files f (find_some Hf2.out).1)
 have HN:=box hN
 clear hN
 go_wp2_with fail
 refine(Hl.out _).mono ?_
 rintro e w3 ⟨rfl,hc3⟩
 have hD3:=HN.out.disk.calm hc3
 have hS3:=HS.out.calm hc3
 obtain⟨g0',g1',g2',g3'⟩:=hD3.file Hf2.out
 have hfl3:f.blk<w3.heap.size:=heap_lt (hD3.files f (find_some Hf2.out).1)
 have hD4:=hD3.written (s:=s) Hf2.out j
 have hm4:f∈D.burn.files:=(find_some Hf2.out).1
 have hS4:=hS3.trans (show Step (foot p mb wv D.burn) w3 (foot p mb wv D.burn) (w3.setCell ⟨f.blk,1,none⟩ (.string (laid f.now j s))) from ⟨(Keeps.refl _ w3).setCell (p:=⟨f.blk,1,none⟩) (.inl (.inr (.inr (.inr (List.mem_map.2 ⟨f,hm4,rfl⟩))))) _,fun _ h=>.inl h⟩)
 have hs4:(w3.setCell ⟨f.blk,1,none⟩ (.string (laid f.now j s))).heap.size=w3.heap.size:=by simp [World.setCell]
 have hD5:=hD4.calm ((Calm.refl _).alloc (.cells #[ptrTo f.blk,.int .i64 j,.string s] 133))
 have hb5:=heap_new (w3.setCell ⟨f.blk,1,none⟩ (.string (laid f.now j s))) (.cells #[ptrTo f.blk,.int .i64 j,.string s] 133)
 rw[hs4]at hb5
 have hwl5:(D.burn.turn n (putF j s)).waits.length≤1000000:=by rw[show (D.burn.turn n (putF j s)).waits=D.waits from burn_files.2.1];exact Hwl.out
 obtain⟨v',W6,Happ,hrow,hk6,hob⟩:=append_wait _ (D.burn.turn n (putF j s)).waits ⟨f.blk,j,s⟩ w3.heap.size hD5.waits hb5 hwl5 91
 obtain⟨a',n',cap',rfl⟩:=row_slice hrow
 have hp6:W6.heap[p]? = some (.cells (diskCells (D.burn.turn n (putF j s)) mb wv) 93 (0,0)):=(hk6.block p (heap_lt hD5.obj) hD5.p_ne_row).trans hD5.obj
 have k3:W6.cell? ⟨p,3,none⟩=some wv:=cell_of hp6 3
 have k4:=free_of hp6 3
 have hpl6:=heap_lt hp6
 have hnew:∀g,(Value.slice a' n' cap').ownBlock=some g→wv.ownBlock=some g∨((w3.setCell ⟨f.blk,1,none⟩ (.string (laid f.now j s))).alloc (.cells #[ptrTo f.blk,.int .i64 j,.string s] 133)).heap.size≤g:=fun g hg=>by
  rcases hob with h|h
  ·exact .inl (by rw[←h];exact hg)
  ·rw[h]at hg;cases hg;exact .inr (Nat.le_refl _)
 have hfin:=box (hD5.rowTo hk6 hrow hnew (fun x hx=>by
  rcases List.mem_append.1 hx with hx|hx
  ·exact hD5.live x hx
  ·rw[List.mem_singleton]at hx
   subst hx
   refine⟨putF j s f,?_,rfl⟩
   unfold DiskS.turn
   exact List.mem_map.2 ⟨f,hm4,if_pos (find_some Hf2.out).2⟩))
 have hS7:=box ((hS4.calm ((Calm.refl _).alloc (.cells #[ptrTo f.blk,.int .i64 j,.string s] 133))).trans (show Step (foot p mb wv D.burn) _ (foot p mb (.slice a' n' cap') (D.burn.put n f j s)) (W6.setCell ⟨p,3,none⟩ (.slice a' n' cap')) from ⟨(hk6.mono (fun b _ hb=>.inr (.inr (.inl hb)))).setCell (p:=⟨p,3,none⟩) (.inl (.inl rfl)) _,by
  rintro b (hb|hb|hb|hb)
  ·exact .inl (.inl hb)
  ·exact .inl (.inr (.inl hb))
  ·rcases hnew b hb with h|h
   ·exact .inl (.inr (.inr (.inl h)))
   ·exact .inr h
  ·refine .inl (.inr (.inr (.inr ?_)))
   rw[←(turn_same (n:=n) (g:=putF j s) (fun _=>⟨rfl,rfl⟩)).2]
   exact hb⟩))
 have Happ:=box Happ
 have d3c:w3.cell? ⟨p,3,none⟩=some wv:=hD3.cells.2.2.2.1
 have hpl3:=heap_lt hD3.obj
 have hpf:=hD3.p_ne_file hm4
 clear hD3 hS3 hD4 hS4 hD5 hb5 hrow hk6 hob hnew hp6 hc3 hs4 hwl5
 go_wp2_with (first|(at_builtin;refine Lib.wpList_append_run _ rfl _ _ _ _ rfl _ _ rfl rfl _ _ Happ.out ?_)|fail)
 go_ret
 exact OpDone.of rfl ⟨mb,_,hfin.out,rfl⟩ hS7.out
end
section
variable {w w' w1:World} {p mb:Nat} {wv wv':Value} {D:DiskS} {F:Nat→Prop}
set_option maxHeartbeats 8000000 in
theorem Write_any (n s:ByteArray) (k:Int) (w:World) (h:DiskAt w p D F) (hleft:D.left≤9223372036854775807) (hwl:D.waits.length≤1000000) (hsz:D.size≤1000000000) (hs:s.size≤1000000000) (hcap:0≤D.cap∧D.cap≤16777216) (hfs:∀f∈D.files,f.now.size≤1000000000) :
  Calls Tryz.prog 89 #[ptrTo p,.string n,.int .i64 k,.string s] w (OpDone (D.write n k s) p F w):=by
 have h0:=h
 obtain⟨mb,wv,h,rfl⟩:=h
 have hcalm:Calm w (w.alloc (.cells #[.string n] 9)):=(Calm.refl w).alloc _
 have h1:=h.calm hcalm
 obtain⟨c0,c1,c2,c3,c4⟩:=h1.cells
 have hlook:=h1.look n
 have Hb:=box (bars_any (p:=p) (mb:=mb) (wv:=wv) (D:=D) (.slice (some ⟨w.heap.size,0,none⟩) 1 1) [n] (w.alloc (.cells #[.string n] 9)) h1 (StrsAt.one (by go_cell)) (by simp))
 have hb1:=box (bars_one (D:=D) n)
 have H1:=box h1
 have Hcalm:=box hcalm
 cases hd:D.down
 ·cases hf:D.find n with
  | none =>
   have hh:D.has n=false:=by unfold DiskS.has;rw[hf];rfl
   have hres:=box (show D.write n k s=(9,D) by unfold DiskS.write;rw[hd,hf];rfl)
   have hb2:=box (show D.bars [n]=9 by rw[hb1.out,hd,hh];rfl)
   clear hb1 h1 hf hh hd hsz hs hwl hcap hfs h h0 hcalm
   go_enter Tryz.func89,Tryz.ntmps89
   go_wp2_with fail
   refine Hb.out.mono ?_
   rw[hb2.out]
   rintro e w' ⟨rfl,rfl⟩
   go_wp2_with fail
   go_ret
   exact OpDone.of hres.out ⟨mb,wv,H1.out,rfl⟩ (Step.of_calm Hcalm.out)
  | some f =>
   by_cases hr:k<0∨(f.now.size:Int)<k
   ·have hh:D.has n=true:=by unfold DiskS.has;rw[hf];rfl
    have hp:=ptr_some hf
    obtain⟨d0,d1,d2,d3⟩:=h1.file hf
    have hb2:=box (show D.bars [n]=0 by rw[hb1.out,hd,hh];rfl)
    rw[hp]at hlook
    have hres:=box (show D.write n k s=(2,D) by unfold DiskS.write;rw[hd,hf];simp only[if_pos hr];rfl)
    clear hb1 h1 hf hh hd hp hsz hs hwl hcap hfs h h0 hcalm
    rcases hr with hr|hr
    ·go_enter Tryz.func89,Tryz.ntmps89
     go_wp2_with fail
     refine Hb.out.mono ?_
     rw[hb2.out]
     rintro e w' ⟨rfl,rfl⟩
     go_wp2_with fail
     go_ret
     exact OpDone.of hres.out ⟨mb,wv,H1.out,rfl⟩ (Step.of_calm Hcalm.out)
    ·have hr0:¬k<0:=by omega
     go_enter Tryz.func89,Tryz.ntmps89
     go_wp2_with fail
     refine Hb.out.mono ?_
     rw[hb2.out]
     rintro e w' ⟨rfl,rfl⟩
     go_wp2_with fail
     go_ret
     exact OpDone.of hres.out ⟨mb,wv,H1.out,rfl⟩ (Step.of_calm Hcalm.out)
   ·obtain⟨j,rfl⟩:∃j:Nat,k=j:=⟨k.toNat,by omega⟩
    have hj:j≤f.now.size:=by omega
    have hnow:f.now.size≤1000000000:=hfs f (find_some hf).1
    by_cases t1:D.cap-D.size<j+s.size-f.now.size
    ·by_cases t2:(f.now.size:Int)<j+s.size
     ·rw[write_full hd hf hj t1 t2]
      exact Write_full n s j f w h0 hleft hwl hsz hs hcap hd hf hnow hj (decide_eq_true t1) (decide_eq_true t2)
     ·rw[write_goes (s:=s) hd hf hj (.inr t2)]
      cases hbn:D.burns
      ·by_cases hs0:s.size=0
       ·simp only[Bool.false_eq_true,if_false,hs0,if_true]
        exact Write_emptyTF n s j f w h0 hleft hwl hsz hs hcap hd hf hnow hj (decide_eq_true t1) (decide_eq_false t2) hbn hs0
       ·simp only[Bool.false_eq_true,if_false,hs0]
        exact Write_putTF n s j f w h0 hleft hwl hsz hs hcap hd hf hnow hj (decide_eq_true t1) (decide_eq_false t2) hbn hs0
      ·simp only[if_true]
       exact Write_burnTF n s j f w h0 hleft hwl hsz hs hcap hd hf hnow hj (decide_eq_true t1) (decide_eq_false t2) hbn
    ·rw[write_goes (s:=s) hd hf hj (.inl t1)]
     cases hbn:D.burns
     ·by_cases hs0:s.size=0
      ·simp only[Bool.false_eq_true,if_false,hs0,if_true]
       exact Write_emptyF n s j f w h0 hleft hwl hsz hs hcap hd hf hnow hj (decide_eq_false t1) hbn hs0
      ·simp only[Bool.false_eq_true,if_false,hs0]
       exact Write_putF n s j f w h0 hleft hwl hsz hs hcap hd hf hnow hj (decide_eq_false t1) hbn hs0
     ·simp only[if_true]
      exact Write_burnF n s j f w h0 hleft hwl hsz hs hcap hd hf hnow hj (decide_eq_false t1) hbn
 ·have hres:=box (show D.write n k s=(8,D) by unfold DiskS.write;rw[hd];rfl)
  have hb2:=box (show D.bars [n]=8 by rw[hb1.out,hd];rfl)
  clear hb1 h1 hd hsz hs hwl hcap hfs h h0 hcalm
  go_enter Tryz.func89,Tryz.ntmps89
  go_wp2_with fail
  refine Hb.out.mono ?_
  rw[hb2.out]
  rintro e w' ⟨rfl,rfl⟩
  go_wp2_with fail
  go_ret
  exact OpDone.of hres.out ⟨mb,wv,H1.out,rfl⟩ (Step.of_calm Hcalm.out)
end
def BoolsAt (w:World) (a:Option Addr) (l:List Bool):Prop :=
 ∀k (hk:k<l.length),∃b off,a=some ⟨b,off,none⟩∧w.cell? ⟨b,off+k,none⟩=some (.bool l[k])
theorem BoolsAt.calm {w w':World} {a:Option Addr} {l:List Bool} (h:BoolsAt w a l) (hc:Calm w w'):BoolsAt w' a l:=fun k hk=>by
 obtain⟨b,off,rfl,hcell⟩:=h k hk
 exact⟨b,off,rfl,by rw[hc.cell (p:=⟨b,off+k,none⟩) (World.block_lt_of_cell? w _ hcell)];exact hcell⟩
theorem BoolsAt.take {w:World} {a:Option Addr} {l:List Bool} (h:BoolsAt w a l) (m:Nat):BoolsAt w a (l.take m):=fun k hk=>by
 obtain⟨b,off,rfl,hcell⟩:=h k (by simp at hk;omega)
 exact⟨b,off,rfl,by rw[hcell,List.getElem_take]⟩
theorem BoolsAt.drop {w:World} {b off:Nat} {l:List Bool} (h:BoolsAt w (some ⟨b,off,none⟩) l) (m:Nat):BoolsAt w (some ⟨b,off+m,none⟩) (l.drop m):=fun k hk=>by
 obtain⟨b',off',e,hcell⟩:=h (m+k) (by simp at hk;omega)
 cases e
 exact⟨b,off+m,rfl,by rw[Nat.add_assoc,hcell,List.getElem_drop]⟩
def idxB (l:List Bool):Int:=match l.findIdx? (fun x=>x) with|some k=>k|none=>-1
theorem idxB_contains (l:List Bool):decide (0≤idxB l)=l.contains true:=by
 unfold idxB
 cases h:l.findIdx? (fun x=>x) with
 | none =>
  rw[List.findIdx?_eq_none_iff]at h
  have:l.contains true=false:=by
   rw[←Bool.not_eq_true,List.contains_iff_mem]
   intro hm;have:=h true hm;simp at this
  rw[this];rfl
 | some k =>
  rw[List.findIdx?_eq_some_iff_getElem]at h
  obtain⟨hk,h1,_⟩:=h
  have:l.contains true=true:=by
   rw[List.contains_iff_mem,←h1];exact List.getElem_mem _
  rw[this];exact decide_eq_true (Int.natCast_nonneg k)
theorem idxB_snoc (l:List Bool) (k:Nat) (hk:k<l.length) (h:(l.take k).findIdx? (fun x=>x)=none) :
  (l[k]=true→idxB l=k)∧(l[k]=false→(l.take (k+1)).findIdx? (fun x=>x)=none):=by
 rw[List.findIdx?_eq_none_iff]at h
 constructor
 ·intro he
  have:l.findIdx? (fun x=>x)=some k:=by
   rw[List.findIdx?_eq_some_iff_getElem]
   refine⟨hk,he,fun j hj=>?_⟩
   have:=h l[j] (by rw[List.mem_take_iff_getElem];exact⟨j,by omega,rfl⟩)
   simpa using this
  unfold idxB;rw[this]
 ·intro he
  rw[List.findIdx?_eq_none_iff,List.take_succ_eq_append_getElem hk]
  intro x hx
  rcases List.mem_append.1 hx with hx|hx
  ·exact h x hx
  ·rw[List.mem_singleton]at hx;subst hx;exact he
set_option maxHeartbeats 2000000 in
theorem IndexB_any (a:Option Addr) (cap:Nat) (l:List Bool) (w:World) (h:BoolsAt w a l) (hl:l.length≤4294967296) :
  Calls Tryz.prog 114 #[.slice a l.length cap,.bool true] w fun e w'=>e=.returned (.int .i64 (idxB l))∧w=w':=by
 have H:=box h
 clear h
 go_enter Tryz.func114,Tryz.ntmps114
 go_wp2
 go_loop [8] (fun i=>∃k:Nat,k≤l.length∧i=.int .i64 k∧(l.take k).findIdx? (fun x=>x)=none) (fun i=>l.length-(intOf i).toNat)
 case atStart=>exact⟨0,Nat.zero_le _,rfl,rfl⟩
 case round =>
  obtain⟨k,hk,rfl,hno⟩:=hrel
  have Hno:=box hno
  clear hno
  by_cases hlt:k<l.length
  ·obtain⟨b,off,rfl,hcell⟩:=H.out k hlt
   have hsn:=box (idxB_snoc l k hlt)
   obtain⟨x,hx⟩:∃x,l[k]=x:=⟨_,rfl⟩
   rw[hx]at hcell hsn
   clear hx
   cases x
   ·have hn:=box ((hsn.out Hno.out).2 rfl)
    go_wp2
    go_round
    case rel=>exact⟨k+1,by omega,by go_num,hn.out⟩
    case measure=>simp [intOf];omega
   ·have hn:=box ((hsn.out Hno.out).1 rfl)
    go_wp2
    go_ret
    exact⟨ret_int (by rw[hn.out]),rfl⟩
  ·obtain rfl:k=l.length:=by omega
   have hn:=box (show idxB l = -1 by have:=Hno.out;rw[List.take_length]at this;unfold idxB;rw[this])
   go_wp2
   go_ret
   exact⟨ret_int (by rw[hn.out]),rfl⟩
theorem ContainsB_any (a:Option Addr) (cap:Nat) (l:List Bool) (w:World) (h:BoolsAt w a l) (hl:l.length≤4294967296) :
  Calls Tryz.prog 66 #[.slice a l.length cap,.bool true] w fun e w'=>e=.returned (.bool (l.contains true))∧w=w':=by
 have hi:=box (IndexB_any a cap l w h hl)
 have hb:=box (idxB_contains l)
 clear h
 go_enter Tryz.func66,Tryz.ntmps66
 go_wp2_with fail
 refine hi.out.mono ?_
 rintro e w' ⟨rfl,rfl⟩
 go_wp2_with fail
 go_ret
 exact⟨ret_bool hb.out,rfl⟩
end Go.Proofs.YtiahjipoofeliaaGreatDoor.dk
