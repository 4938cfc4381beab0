/- Lemmas for this claim. -/
import Derived.Lib.SliceRun
import Derived.Test.YtiahjipoofeliaaGreatDoorPk6
set_option maxRecDepth 100000
namespace Go.Proofs.YtiahjipoofeliaaGreatDoor.dk
open Go.ChangeShapes Go.WideShapes Go.ChangeAt Go.RowKit
theorem heap_setCells (b:Nat) (T:TypeId):∀(vs:List Value) (o:Nat) (w:World) (c:Array Value),w.heap[b]? = some (.cells c T (0,0)) →
  ∃c',(w.setCells b o vs).heap[b]? = some (.cells c' T (0,0))∧c'.size=c.size∧∀j,j<o→c'[j]? = c[j]?
 | [],o,w,c,h=>⟨c,h,rfl,fun _ _=>rfl⟩
 | v :: r,o,w,c,h=>by
  obtain⟨c',h1,h2,h3⟩:=heap_setCells b T r (o+1) (w.setCell ⟨b,o,none⟩ v) (c.setIfInBounds o v) (heap_set h o v)
  refine⟨c',h1,by rw[h2];simp,fun j hj=>?_⟩
  rw[h3 j (by omega),Array.getElem?_setIfInBounds,if_neg (by omega)]
theorem run_clear_cells {P:Program} (w:World) (t e ty:TypeId) (z:Value) (ht:P.underlying t=some (.slice e)) (hv:∀w,(zeroValue e).run P w=.ok z w) (b o n c m:Nat) (hn:0<n)
  (hm:(Builtin.zeroCells z.cells n).toList.length=m) (h1:∀v∈(Builtin.zeroCells z.cells n).toList,v.oneCell'=true)
  (hc:∀j,j<m→(w.cell? ⟨b,o+j,none⟩).isSome=true) (hf:∀j,j<m→w.frozen? ⟨b,o+j,none⟩=false) :
  (Builtin.clear_ #[t] ty #[.slice (some ⟨b,o,none⟩) n c]).run P w=.ok (.tuple #[]) (w.setCells b o (Builtin.zeroCells z.cells n).toList):=by
 subst hm
 have hst:=run_storeCells_cells (P:=P) b o (Builtin.zeroCells z.cells n).toList 0 w hc hf h1
 simp only[Nat.add_zero]at hst
 obtain⟨m,rfl⟩:∃m,n=m+1:=⟨n-1,by omega⟩
 simp [Builtin.clear_,run_underlying ht,hv,hst]
def RowC (cur:Array Value) (L:List WaitS):Prop:=∀j (hj:j<L.length),cur[j * 3]? = some (ptrTo L[j].blk)∧cur[j * 3+1]? = some (.int .i64 L[j].off)∧cur[j * 3+2]? = some (.string L[j].s)
theorem RowC.take {cur:Array Value} {L:List WaitS} (h:RowC cur L) (hs:L.length * 3≤cur.size):cur.toList.take (L.length * 3)=L.flatMap encW:=by
 have hl:∀L:List WaitS,(L.flatMap encW).length=L.length * 3:=fun L=>by
  induction L with
  | nil=>rfl
  | cons x l ih=>simp [encW,ih];omega
 apply List.ext_getElem?
 intro m
 by_cases hm:m<L.length * 3
 ·have hd:m=m / 3 * 3+m%3:=by omega
  have hj:m / 3<L.length:=by omega
  obtain⟨a0,a1,a2⟩:=h _ hj
  obtain⟨b0,b1,b2⟩:=flat_get L _ hj
  rw[List.getElem?_take_of_lt hm]
  simp only[Array.getElem?_toList]
  have h3:m%3=0∨m%3=1∨m%3=2:=by omega
  rcases h3 with h3|h3|h3
  ·rw[hd,h3,Nat.add_zero,a0,b0]
  ·rw[hd,h3,a1,b1]
  ·rw[hd,h3,a2,b2]
 ·rw[List.getElem?_eq_none (by simp;omega),List.getElem?_eq_none (by rw[hl];omega)]
theorem RowC.of_take {cur:Array Value} {L:List WaitS} (h:cur.toList.take (L.length * 3)=L.flatMap encW):RowC cur L:=by
 intro j hj
 have hg:=flat_get L j hj
 rw[←h]at hg
 have e:∀k,k<3→(cur.toList.take (L.length * 3))[j * 3+k]? = cur[j * 3+k]? := fun k hk=>by
  rw[List.getElem?_take_of_lt (by omega)];simp
 have e0:=e 0 (by omega)
 simp only[Nat.add_zero]at e0
 rw[e0,e 1 (by omega),e 2 (by omega)]at hg
 exact hg
theorem flat_len:∀L:List WaitS,(L.flatMap encW).length=L.length * 3
 | []=>rfl
 | x :: l=>by simp only[List.flatMap_cons,List.length_append,flat_len l,List.length_cons];simp [encW];omega
structure MidIs (cur:Array Value) (cap:Nat) (L K:List WaitS) (j:Nat):Prop where
 size:cur.size=cap * 3
 le:L.length≤cap
 kept:RowC cur K
 rest:∀k (hk:k<L.length),j≤k→cur[k * 3]? = some (ptrTo L[k].blk)∧cur[k * 3+1]? = some (.int .i64 L[k].off)∧cur[k * 3+2]? = some (.string L[k].s)
 lt:K.length<j
theorem MidIs.skip {cur:Array Value} {cap:Nat} {L K:List WaitS} {j:Nat} (h:MidIs cur cap L K j):MidIs cur cap L K (j+1) :=
 ⟨h.size,h.le,h.kept,fun k hk hj=>h.rest k hk (by omega),by have:=h.lt;omega⟩
theorem MidIs.put {cur:Array Value} {cap:Nat} {L K:List WaitS} {j:Nat} (h:MidIs cur cap L K j) (hj:j<L.length) (x:WaitS) :
  MidIs (((cur.setIfInBounds (K.length * 3) (ptrTo x.blk)).setIfInBounds (K.length * 3+1) (.int .i64 x.off)).setIfInBounds (K.length * 3+2) (.string x.s)) cap L (K++[x]) (j+1):=by
 obtain⟨h1,h2,h3,h4,h5⟩:=h
 have hsz:K.length * 3+2<cur.size:=by rw[h1];omega
 refine⟨by simpa using h1,h2,?_,?_,by simp;omega⟩
 ·intro i hi
  simp only[List.length_append,List.length_singleton]at hi
  by_cases hik:i<K.length
  ·rw[List.getElem_append_left hik]
   have:=h3 i hik
   simp only[Array.getElem?_setIfInBounds,Array.size_setIfInBounds]
   rw[if_neg (by omega),if_neg (by omega),if_neg (by omega),if_neg (by omega),if_neg (by omega),if_neg (by omega),if_neg (by omega),if_neg (by omega),if_neg (by omega)]
   exact this
  ·obtain rfl:i=K.length:=by omega
   rw[List.getElem_append_right (Nat.le_refl _)]
   simp only[Nat.sub_self,List.getElem_cons_zero,Array.getElem?_setIfInBounds,Array.size_setIfInBounds]
   refine⟨?_,?_,?_⟩
   ·rw[if_neg (by omega),if_neg (by omega),if_pos trivial,if_pos (by omega)]
   ·rw[if_neg (by omega),if_pos trivial,if_pos (by omega)]
   ·rw[if_pos trivial,if_pos (by omega)]
 ·intro k hk hjk
  simp only[Array.getElem?_setIfInBounds,Array.size_setIfInBounds]
  rw[if_neg (by omega),if_neg (by omega),if_neg (by omega),if_neg (by omega),if_neg (by omega),if_neg (by omega),if_neg (by omega),if_neg (by omega),if_neg (by omega)]
  exact h4 k hk (by omega)
theorem _root_.Go.Proofs.YtiahjipoofeliaaGreatDoor.Keeps.cell1 {w w':World} {g b k:Nat} (h:Keeps (· = g) w w') (hb:b<w.heap.size) (hn:b≠g):w'.cell? ⟨b,k,none⟩=w.cell? ⟨b,k,none⟩:=by
 simp only[World.cell?,h.block b hb hn]
theorem Plain.keep {w w':World} {g b:Nat} (hp:Plain w b) (h:Keeps (· = g) w w') (hn:b≠g):Plain w' b:=by
 obtain⟨c,T,hc⟩:=hp;exact⟨c,T,(h.block b (heap_lt hc) hn).trans hc⟩
def keepW (b:Nat) (L:List WaitS):List WaitS:=L.filter fun x=>!decide (x.blk=b)
theorem keep_step (b:Nat) (L:List WaitS) (j:Nat) (hj:j<L.length):(L[j].blk=b→keepW b (L.take (j+1))=keepW b (L.take j))∧(¬L[j].blk=b→keepW b (L.take (j+1))=keepW b (L.take j)++[L[j]]):=by
 unfold keepW
 rw[List.take_succ_eq_append_getElem hj,List.filter_append]
 exact⟨fun h=>by simp [h],fun h=>by simp [h]⟩
theorem keep_none (b:Nat) (L:List WaitS) (h:L.findIdx? (fun x=>decide (x.blk=b))=none):keepW b L=L:=by
 rw[List.findIdx?_eq_none_iff]at h
 unfold keepW
 exact List.filter_eq_self.2 (fun x hx=>by rw[h x hx];rfl)
theorem keep_head (b:Nat) (L:List WaitS) (k:Nat) (h:L.findIdx? (fun x=>decide (x.blk=b))=some k):k<L.length∧keepW b (L.take (k+1))=L.take k:=by
 rw[List.findIdx?_eq_some_iff_getElem]at h
 obtain⟨hk,h1,h2⟩:=h
 refine⟨hk,?_⟩
 rw[(keep_step b L k hk).1 (by simpa using h1)]
 unfold keepW
 refine List.filter_eq_self.2 (fun x hx=>?_)
 obtain⟨j,hj,rfl⟩:=List.mem_take_iff_getElem.1 hx
 have:=h2 j (by omega)
 simpa using this
def DelDone (wv:Value) (L:List WaitS) (w:World) (e:Ending) (w':World):Prop :=
 ∃wv',e=.returned wv'∧w'.ownsRow 0 133 3 wv' L.length (L.flatMap encW)∧Keeps (fun g=>wv.ownBlock=some g) w w'∧wv'.ownBlock=wv.ownBlock
theorem zeroWrite (w:World):(zeroValue 133).run Tryz.prog w=.ok (.agg #[.pointer none,.int .i64 0,.string ⟨#[]⟩]) w:=by kernel_rfl
theorem zeroWrites (n:Nat):(Builtin.zeroCells (Value.agg #[.pointer none,.int .i64 0,.string ⟨#[]⟩]).cells n).toList.length=n * 3∧∀v∈(Builtin.zeroCells (Value.agg #[.pointer none,.int .i64 0,.string ⟨#[]⟩]).cells n).toList,v.oneCell'=true:=by
 have hc:(Value.agg #[.pointer none,.int .i64 0,.string ⟨#[]⟩]).cells=#[.pointer none,.int .i64 0,.string ⟨#[]⟩]:=by kernel_rfl
 rw[hc]
 constructor
 ·simp [Builtin.zeroCells]
 ·intro v hv
  simp only[Builtin.zeroCells,Array.toList_map,List.mem_map]at hv
  obtain⟨i,_,rfl⟩:=hv
  have h3:i%3=0∨i%3=1∨i%3=2:=by omega
  rcases h3 with h3|h3|h3<;>simp [h3,Value.oneCell']
theorem IndexFuncNil_any (fv:Value) (w:World):Calls Tryz.prog 171 #[.slice none 0 0,fv] w fun e w'=>e=.returned (.int .i64 (-1))∧w=w':=by
 go_enter Tryz.func171,Tryz.ntmps171
 go_wp2
 go_rounds 1
 go_wp2
 go_ret
 exact⟨rfl,rfl⟩
set_option maxHeartbeats 4000000 in
theorem DeleteFunc_in (G fb b:Nat) (hG:DelFn G) (g cap:Nat) (L:List WaitS) (w:World) (h:RowIs w g cap L)
  (hfb:w.cell? ⟨fb,0,none⟩=some (ptrTo b)) (hb:Plain w b) (hL:∀x∈L,Plain w x.blk) (hlen:L.length≤1000000) (hne:g≠fb∧g≠b∧∀x∈L,g≠x.blk) :
  Calls Tryz.prog 131 #[.slice (some ⟨g,0,none⟩) L.length cap,.func (.func G) #[] #[ptrTo fb]] w (DelDone (.slice (some ⟨g,0,none⟩) L.length cap) (keepW b L) w):=by
 have Hd:Box (DelAt G fb b):=box (hG.2 fb b)
 have HI:=box (IndexFunc_any G fb b hG g cap L w h hfb hb hL hlen)
 obtain⟨cur0,hcur0,hcap,hcapm,hsz0,htake⟩:=h
 have Hcur:=box hcur0
 have Htake:=box htake
 have Hfb:=box hfb
 have Hb:=box hb
 have HL:=box hL
 have Hne:=box hne
 have hfl:fb<w.heap.size:=World.block_lt_of_cell? w _ hfb
 have hgl:=heap_lt hcur0
 clear hb hL hfb hcur0 htake hne
 cases hfind:L.findIdx? (fun x=>decide (x.blk=b)) with
 | none =>
  have hidx:idxW b L = -1:=by unfold idxW;rw[hfind]
  have hk:=box (keep_none b L hfind)
  rw[hidx]at HI
  clear hidx hfind
  have hen:=hG.1
  unfold EntersF at hen
  clear hG
  all_goals
   go_enter Tryz.func131,Tryz.ntmps131
   go_wp2_with fail
   refine HI.out.mono ?_
   rintro e w' ⟨rfl,hc⟩
   go_wp2_with fail
   go_ret
   rw[hk.out]
   refine⟨_,rfl,⟨flat_len _,.inr ⟨g,cap,cur0,rfl,Nat.zero_le _,heap_calm hc Hcur.out,hcap,hcapm,hsz0,Htake.out⟩⟩,.of_calm hc,rfl⟩
 | some k0 =>
  have hidx:idxW b L=k0:=by unfold idxW;rw[hfind]
  obtain⟨hk0,hkh⟩:=keep_head b L k0 hfind
  have Hkh:=box hkh
  rw[hidx]at HI
  have hne1:((k0:Int) == -1)=false:=beq_eq_false_iff_ne.2 (by omega)
  clear hidx hfind hkh
  have hen:=hG.1
  unfold EntersF at hen
  clear hG
  all_goals
   go_enter Tryz.func131,Tryz.ntmps131
   go_wp2_with fail
   refine HI.out.mono ?_
   rintro e w' ⟨rfl,hc⟩
   go_wp2_with fail
   go_loopw [5,6,7] (fun s5 s6 _ wr=>∃(i j:Nat) (cur:Array Value),s5=.int .i64 i∧s6=.int .i64 j∧j≤L.length∧i=(keepW b (L.take j)).length∧wr.heap[g]? = some (.cells cur 133 (0,0))∧MidIs cur cap L (keepW b (L.take j)) j∧Keeps (· = g) w wr) (fun _ j _ _=>L.length-(intOf j).toNat)
   case atStart =>
    have hl:(keepW b (L.take (k0+1))).length=k0:=by rw[Hkh.out];simp;omega
    have hrc:RowC cur0 L:=RowC.of_take Htake.out
    refine⟨k0,k0+1,cur0,rfl,by go_num,by omega,hl.symm,heap_calm hc Hcur.out,⟨hsz0,hcap,?_,fun k hk _=>hrc k hk,by rw[hl];omega⟩,.of_calm hc⟩
    intro m hm
    have hm':m<k0:=by rw[hl]at hm;exact hm
    have:=hrc m (by omega)
    simp only[Hkh.out,List.getElem_take]
    exact this
   case round =>
    obtain⟨i,j,cur,rfl,rfl,hj,hi,hcr,hmid,hkp⟩:=hrel
    by_cases hlt:j<L.length
    ·have hmem:=box (show L[j]∈L from List.getElem_mem _)
     have hst:=box (keep_step b L j hlt)
     obtain⟨c0,c1,c2⟩:=hmid.rest j hlt (Nat.le_refl _)
     have Hput:=box (hmid.put hlt)
     have hil:i<j:=by rw[hi];exact hmid.lt
     have hgs:=heap_lt hcr
     obtain⟨x,hx⟩:∃x,L[j]=x:=⟨_,rfl⟩
     rw[hx]at c0 c1 c2 hmem hst
     clear hx
     rw[←cell_of hcr]at c0 c1 c2
     have hwfb:fb<wr.heap.size:=Nat.lt_of_lt_of_le hfl hkp.size
     have hst0:∀a:Addr,a.block<wr.heap.size→∀ {o:Obj},(wr.alloc o).cell? a=wr.cell? a:=fun a ha {o}=>((Calm.refl wr).alloc o).cell ha
     have Hmid:=box hmid
     have Hcr:=box hcr
     have Hkp:=box hkp
     have Hi:=box hi
     clear hmid hcr hkp hi
     by_cases hxb:x.blk=b
     ·have hd:=box (decide_eq_true hxb)
      have hnext:=box (hst.out.1 hxb)
      clear hxb
      go_wp2_with fail
      refine(Hd.out x _ ?_ ?_ ?_).mono ?_
      ·exact(hst0 (⟨fb,0,none⟩:Addr) hwfb).trans ((Hkp.out.cell1 hfl (fun e=>Hne.out.1 e.symm)).trans Hfb.out)
      ·exact Plain.calm ((HL.out x hmem.out).keep Hkp.out (fun e=>Hne.out.2.2 x hmem.out e.symm)) ((Calm.refl _).alloc _)
      ·exact Plain.calm (Hb.out.keep Hkp.out (fun e=>Hne.out.2.1 e.symm)) ((Calm.refl _).alloc _)
      rw[hd.out]
      rintro e w1 ⟨rfl,hc1⟩
      go_wp2_with fail
      go_roundw
      case rel=>exact⟨i,j+1,cur,rfl,by go_num,by omega,by rw[hnext.out];exact Hi.out,heap_calm hc1 (heap_old _ _ Hcr.out),by rw[hnext.out];exact Hmid.out.skip,(Hkp.out.alloc _).calm hc1⟩
      case measure=>simp [intOf];omega
     ·have hd:=box (decide_eq_false hxb)
      have hnext:=box (hst.out.2 hxb)
      clear hxb
      go_wp2_with fail
      refine(Hd.out x _ ?_ ?_ ?_).mono ?_
      ·exact(hst0 (⟨fb,0,none⟩:Addr) hwfb).trans ((Hkp.out.cell1 hfl (fun e=>Hne.out.1 e.symm)).trans Hfb.out)
      ·exact Plain.calm ((HL.out x hmem.out).keep Hkp.out (fun e=>Hne.out.2.2 x hmem.out e.symm)) ((Calm.refl _).alloc _)
      ·exact Plain.calm (Hb.out.keep Hkp.out (fun e=>Hne.out.2.1 e.symm)) ((Calm.refl _).alloc _)
      rw[hd.out]
      rintro e w1 ⟨rfl,hc1⟩
      have hv:w1.heap[wr.heap.size]? = some (.cells #[ptrTo x.blk,.int .i64 x.off,.string x.s] 133 (0,0)):=heap_calm hc1 (heap_new wr _)
      have v0:=cell_of hv 0
      have v1:=cell_of hv 1
      have v2:=cell_of hv 2
      have hg1:=heap_calm hc1 (heap_old wr (.cells #[ptrTo x.blk,.int .i64 x.off,.string x.s] 133) Hcr.out)
      have hsz:=Hmid.out.size
      obtain⟨o0,d0⟩:∃o,w1.cell? ⟨g,i * 3,none⟩=some o:=by rw[cell_of hg1];exact⟨_,Array.getElem?_eq_getElem (by omega)⟩
      obtain⟨o1,d1⟩:∃o,w1.cell? ⟨g,i * 3+1,none⟩=some o:=by rw[cell_of hg1];exact⟨_,Array.getElem?_eq_getElem (by omega)⟩
      obtain⟨o2,d2⟩:∃o,w1.cell? ⟨g,i * 3+2,none⟩=some o:=by rw[cell_of hg1];exact⟨_,Array.getElem?_eq_getElem (by omega)⟩
      have e0:=free_of hg1 (i * 3)
      have e1:=free_of hg1 (i * 3+1)
      have e2:=free_of hg1 (i * 3+2)
      have Hg1:=box hg1
      clear hv hg1 hsz
      go_wp2_with fail
      go_roundw
      case rel =>
       refine⟨i+1,j+1,_,by go_num,by go_num,by omega,by rw[hnext.out,Hi.out];simp,heap_set (heap_set (heap_set Hg1.out _ _) _ _) _ _,by rw[hnext.out,Hi.out];exact Hput.out x,((((Hkp.out.alloc _).calm hc1).setCell (p:=⟨g,i * 3,none⟩) (.inl rfl) _).setCell (p:=⟨g,i * 3+1,none⟩) (.inl rfl) _).setCell (p:=⟨g,i * 3+2,none⟩) (.inl rfl) _⟩
      case measure=>simp [intOf];omega
    ·obtain rfl:j=L.length:=by omega
     have hil:i<L.length:=by rw[hi];exact hmid.lt
     have hzw:=zeroWrites (L.length-i)
     have hcl:∀ty,(Builtin.clear_ #[91] ty #[.slice (some ⟨g,i * 3,none⟩) (L.length-i) (cap-i)]).run Tryz.prog wr=.ok (.tuple #[]) (wr.setCells g (i * 3) (Builtin.zeroCells (Value.agg #[.pointer none,.int .i64 0,.string ⟨#[]⟩]).cells (L.length-i)).toList):=fun ty =>
      run_clear_cells wr _ 133 ty _ Tryz.underlying91 zeroWrite g (i * 3) (L.length-i) (cap-i) ((L.length-i) * 3) (by omega) hzw.1 hzw.2
       (fun k hk=>by rw[cell_of hcr,Array.getElem?_eq_getElem (by have:=hmid.size;omega)];rfl) (fun k hk=>free_of hcr _)
     have hres:=box (heap_setCells g _ (Builtin.zeroCells (Value.agg #[.pointer none,.int .i64 0,.string ⟨#[]⟩]).cells (L.length-i)).toList (i * 3) wr cur hcr)
     have Hmid:=box hmid
     have Hkp:=box hkp
     have Hi:=box hi
     have hic:i<cap:=by omega
     have hic2:¬cap=i:=by omega
     have hle:L.length≤cap:=hcap
     clear hmid hcr hkp hi hzw
     go_wp2_with fail
     go_ret
     obtain⟨c',r1,r2,r3⟩:=hres.out
     have hall:keepW b (L.take L.length)=keepW b L:=by rw[List.take_length]
     have hm:=Hmid.out
     have hi:=Hi.out
     rw[hall]at hm hi
     subst hi
     refine⟨_,rfl,⟨flat_len _,.inr ⟨g,cap,c',rfl,Nat.zero_le _,r1,by omega,hcapm,by rw[r2];exact hm.size,?_⟩⟩,(keeps_setCells (· = g) g _ _ _ _ (.inl rfl) Hkp.out).mono (fun x _ e=>by rw[e];rfl),rfl⟩
     refine RowC.take (fun m hm'=>?_) (by rw[r2,hm.size];omega)
     rw[r3 _ (by omega),r3 _ (by omega),r3 _ (by omega)]
     exact hm.kept m hm'
end Go.Proofs.YtiahjipoofeliaaGreatDoor.dk
