/- Lemmas for this claim. -/
import Derived.Shelf.Abstract
import Derived.LaidEql
import Derived.Test.YtiahjipoofeliaaGreatDoorPk5
set_option maxRecDepth 100000
namespace Go.Proofs.YtiahjipoofeliaaGreatDoor.dk
open Go.ChangeShapes Go.WideShapes Go.ChangeAt Go.RowKit
abbrev waitV (x:WaitS):Value:=.agg #[ptrTo x.blk,.int .i64 x.off,.string x.s]
def Plain (w:World) (b:Nat):Prop:=∃c T,w.heap[b]? = some (.cells c T (0,0))
theorem Plain.calm {w w':World} {b:Nat} (h:Plain w b) (hc:Calm w w'):Plain w' b:=by obtain⟨c,T,h⟩:=h;exact⟨c,T,heap_calm hc h⟩
theorem infoFile:(Tryz.prog.info? 137).map (·.size)=some 2:=by kernel_rfl
theorem eqPtrIn (W:World) (d a b:Nat) (ha:Plain W a) (hb:Plain W b):(Op.equalIn (d+1) 131 (ptrTo a) (ptrTo b)).run Tryz.prog W=.ok (decide (a=b)) W:=by
 have hp:Tryz.prog.underlying 131=some (.pointer 137):=Tryz.underlying131
 obtain⟨i,hi,hs⟩:∃i,Tryz.prog.info? 137=some i∧i.size=2:=by
  have:=infoFile
  cases h:Tryz.prog.info? 137 with
  | none=>rw[h]at this;cases this
  | some i=>rw[h]at this;exact⟨i,rfl,by simpa using this⟩
 obtain⟨ca,ta,ha⟩:=ha
 obtain⟨cb,tb,hb⟩:=hb
 by_cases h:a=b
 ·subst h
  simp [Op.equalIn,run_underlying hp,sizeOf,typeInfo,hi,hs,run_sameAddr_same]
 ·have hne:(⟨a,0,none⟩:Addr)≠⟨b,0,none⟩:=by intro e;cases e;exact h rfl
  simp [Op.equalIn,run_underlying hp,sizeOf,typeInfo,hi,hs,run_sameAddr_other W hne ha hb,h]
theorem eqPtr (W:World) (a b:Nat) (ha:Plain W a) (hb:Plain W b):Sem.run Tryz.prog (binOp BinOp.eql 131 (ptrTo a) (ptrTo b)) W=Result.ok (.bool (decide (a=b))) W:=by
 simp only[binOp]
 simp [Op.equal,Op.maxDepth,eqPtrIn W 9999 a b ha hb]
theorem lasts1_any (x:WaitS) (fb b:Nat) (W:World) (hc:W.cell? ⟨fb,0,none⟩=some (ptrTo b)) (hx:Plain W x.blk) (hb:Plain W b) :
  Calls Tryz.prog 188 #[waitV x,ptrTo fb] W fun e w'=>e=.returned (.bool (decide (x.blk=b)))∧Calm W w':=by
 have he:∀o,Sem.run Tryz.prog (binOp BinOp.eql 131 (ptrTo x.blk) (ptrTo b)) (W.alloc o)=Result.ok (.bool (decide (x.blk=b))) (W.alloc o):=fun o =>
  eqPtr _ _ _ (hx.calm ((Calm.refl W).alloc o)) (hb.calm ((Calm.refl W).alloc o))
 have hlt:fb<W.heap.size:=World.block_lt_of_cell? W _ hc
 go_enter Tryz.func188,Tryz.ntmps188
 go_wp2
 go_ret
 exact⟨rfl,(Calm.refl W).alloc _⟩
theorem drop1_any (x:WaitS) (fb b:Nat) (W:World) (hc:W.cell? ⟨fb,0,none⟩=some (ptrTo b)) (hx:Plain W x.blk) (hb:Plain W b) :
  Calls Tryz.prog 132 #[waitV x,ptrTo fb] W fun e w'=>e=.returned (.bool (decide (x.blk=b)))∧Calm W w':=by
 have he:∀o,Sem.run Tryz.prog (binOp BinOp.eql 131 (ptrTo x.blk) (ptrTo b)) (W.alloc o)=Result.ok (.bool (decide (x.blk=b))) (W.alloc o):=fun o =>
  eqPtr _ _ _ (hx.calm ((Calm.refl W).alloc o)) (hb.calm ((Calm.refl W).alloc o))
 have hlt:fb<W.heap.size:=World.block_lt_of_cell? W _ hc
 go_enter Tryz.func132,Tryz.ntmps132
 go_wp2
 go_ret
 exact⟨rfl,(Calm.refl W).alloc _⟩
def DelAt (g fb b:Nat):Prop:=∀(x:WaitS) (W:World),W.cell? ⟨fb,0,none⟩=some (ptrTo b)→Plain W x.blk→Plain W b →
 Calls Tryz.prog g #[waitV x,ptrTo fb] W fun e w'=>e=.returned (.bool (decide (x.blk=b)))∧Calm W w'
theorem lasts_at (fb b:Nat):DelAt 188 fb b:=fun x W h1 h2 h3=>lasts1_any x fb b W h1 h2 h3
theorem drop_at (fb b:Nat):DelAt 132 fb b:=fun x W h1 h2 h3=>drop1_any x fb b W h1 h2 h3
def EntersF (G:Nat):Prop:=∀args w,(callFunc G args).run Tryz.prog w=.ok (.enter G args) w
def DelFn (G:Nat):Prop:=EntersF G∧∀fb b,DelAt G fb b
theorem lasts_fn:DelFn 188:=⟨Go.Proofs.enters_of Tryz.func188 (by kernel_rfl) rfl,lasts_at⟩
theorem drop_fn:DelFn 132:=⟨Go.Proofs.enters_of Tryz.func132 (by kernel_rfl) rfl,drop_at⟩
def RowIs (w:World) (g cap:Nat) (L:List WaitS):Prop :=
 ∃cur,w.heap[g]? = some (.cells cur 133 (0,0))∧L.length≤cap∧cap≤maxLen∧cur.size=cap * 3∧cur.toList.take (L.length * 3)=L.flatMap encW
theorem flat_get:∀(L:List WaitS) (j:Nat) (hj:j<L.length),(L.flatMap encW)[j * 3]? = some (ptrTo L[j].blk)∧(L.flatMap encW)[j * 3+1]? = some (.int .i64 L[j].off)∧(L.flatMap encW)[j * 3+2]? = some (.string L[j].s)
 | x :: L,0,_=>by simp [encW]
 | x :: L,j+1,hj=>by
  have:=flat_get L j (by simpa using hj)
  simp only[List.flatMap_cons,List.getElem_cons_succ]
  have e:∀k,(encW x++L.flatMap encW)[(j+1) * 3+k]? = (L.flatMap encW)[j * 3+k]? := fun k=>by
   rw[List.getElem?_append_right (by simp [encW];omega)];congr 1;simp [encW];omega
  have e0:=e 0
  simp only[Nat.add_zero]at e0
  rw[e0,e 1,e 2];exact this
theorem RowIs.cells {w:World} {g cap:Nat} {L:List WaitS} (h:RowIs w g cap L) (j:Nat) (hj:j<L.length) :
  w.cell? ⟨g,j * 3,none⟩=some (ptrTo L[j].blk)∧w.cell? ⟨g,j * 3+1,none⟩=some (.int .i64 L[j].off)∧w.cell? ⟨g,j * 3+2,none⟩=some (.string L[j].s):=by
 obtain⟨cur,h1,h2,h3,h4,h5⟩:=h
 have hg:=flat_get L j hj
 rw[←h5]at hg
 have e:∀k,k<3→(cur.toList.take (L.length * 3))[j * 3+k]? = cur[j * 3+k]? := fun k hk=>by
  rw[List.getElem?_take_of_lt (by omega)];simp
 have e0:=e 0 (by omega)
 simp only[Nat.add_zero]at e0
 rw[e0,e 1 (by omega),e 2 (by omega)]at hg
 exact⟨(cell_of h1 _).trans hg.1,(cell_of h1 _).trans hg.2.1,(cell_of h1 _).trans hg.2.2⟩
def idxW (b:Nat) (L:List WaitS):Int:=match L.findIdx? (fun x=>decide (x.blk=b)) with|some k=>k|none=>-1
theorem find_snoc (b:Nat) (L:List WaitS) (k:Nat) (hk:k<L.length):(L.take k).findIdx? (fun x=>decide (x.blk=b))=none →
  (L[k].blk=b→idxW b L=k)∧(¬L[k].blk=b→(L.take (k+1)).findIdx? (fun x=>decide (x.blk=b))=none):=by
 intro h
 rw[List.findIdx?_eq_none_iff]at h
 constructor
 ·intro he
  have:L.findIdx? (fun x=>decide (x.blk=b))=some k:=by
   rw[List.findIdx?_eq_some_iff_getElem]
   refine⟨hk,by simp [he],fun j hj=>?_⟩
   have:=h L[j] (by rw[List.mem_take_iff_getElem];exact⟨j,by omega,rfl⟩)
   simpa using this
  unfold idxW;rw[this]
 ·intro he
  rw[List.findIdx?_eq_none_iff,List.take_succ_eq_append_getElem hk]
  intro x hx
  rcases List.mem_append.1 hx with hx|hx
  ·exact h x hx
  ·rw[List.mem_singleton]at hx;subst hx;simp [he]
set_option maxHeartbeats 2000000 in
theorem IndexFunc_any (G fb b:Nat) (hG:DelFn G) (g cap:Nat) (L:List WaitS) (w:World) (h:RowIs w g cap L) (hfb:w.cell? ⟨fb,0,none⟩=some (ptrTo b)) (hb:Plain w b) (hL:∀x∈L,Plain w x.blk) (hlen:L.length≤1000000) :
  Calls Tryz.prog 171 #[.slice (some ⟨g,0,none⟩) L.length cap,.func (.func G) #[] #[ptrTo fb]] w fun e w'=>e=.returned (.int .i64 (idxW b L))∧Calm w w':=by
 have Hd:Box (DelAt G fb b):=box (hG.2 fb b)
 have H:=box h
 have Hfb:=box hfb
 have Hb:=box hb
 have HL:=box hL
 have hfl:fb<w.heap.size:=World.block_lt_of_cell? w _ hfb
 clear h hb hL hfb
 have hen:=hG.1
 unfold EntersF at hen
 clear hG
 all_goals
  go_enter Tryz.func171,Tryz.ntmps171
  go_wp2
  go_loopw [8] (fun i wr=>∃k:Nat,k≤L.length∧i=.int .i64 k∧(L.take k).findIdx? (fun x=>decide (x.blk=b))=none∧Calm w wr) (fun i _=>L.length-(intOf i).toNat)
  case atStart=>exact⟨0,Nat.zero_le _,rfl,rfl,Calm.refl _⟩
  case round =>
   obtain⟨k,hk,rfl,hno,hcalm⟩:=hrel
   have Hno:=box hno
   clear hno
   by_cases hlt:k<L.length
   ·have hmem:=box (show L[k]∈L from List.getElem_mem _)
    have hsn:=box (find_snoc b L k hlt)
    obtain⟨x,hx⟩:∃x,L[k]=x:=⟨_,rfl⟩
    obtain⟨c0,c1,c2⟩:=H.out.cells k hlt
    rw[hx]at c0 c1 c2 hmem hsn
    have hgl:=heap_lt H.out.choose_spec.1
    rw[←hcalm.cell (p:=⟨g,k * 3,none⟩) hgl]at c0
    rw[←hcalm.cell (p:=⟨g,k * 3+1,none⟩) hgl]at c1
    rw[←hcalm.cell (p:=⟨g,k * 3+2,none⟩) hgl]at c2
    clear hx
    by_cases hxb:x.blk=b
    ·have hres:=box (show idxW b L=k from (hsn.out Hno.out).1 hxb)
     have hd:=box (decide_eq_true hxb)
     clear hxb
     go_wp2_with fail
     refine(Hd.out x _ (by rw[hcalm.cell (p:=⟨fb,0,none⟩) hfl];exact Hfb.out) ((HL.out x hmem.out).calm hcalm) (Hb.out.calm hcalm)).mono ?_
     rw[hd.out]
     rintro e w1 ⟨rfl,hc1⟩
     go_wp2_with fail
     go_ret
     exact⟨ret_int (by rw[hres.out]),hcalm.trans hc1⟩
    ·have hnext:=box ((hsn.out Hno.out).2 hxb)
     have hd:=box (decide_eq_false hxb)
     clear hxb
     go_wp2_with fail
     refine(Hd.out x _ (by rw[hcalm.cell (p:=⟨fb,0,none⟩) hfl];exact Hfb.out) ((HL.out x hmem.out).calm hcalm) (Hb.out.calm hcalm)).mono ?_
     rw[hd.out]
     rintro e w1 ⟨rfl,hc1⟩
     go_wp2_with fail
     go_roundw
     case rel=>exact⟨k+1,by omega,by go_num,hnext.out,hcalm.trans hc1⟩
     case measure=>simp [intOf];omega
   ·obtain rfl:k=L.length:=by omega
    have hres:=box (show idxW b L = -1 by have:=Hno.out;rw[List.take_length]at this;unfold idxW;rw[this])
    go_wp2_with fail
    go_ret
    exact⟨ret_int (by rw[hres.out]),hcalm⟩
end Go.Proofs.YtiahjipoofeliaaGreatDoor.dk
