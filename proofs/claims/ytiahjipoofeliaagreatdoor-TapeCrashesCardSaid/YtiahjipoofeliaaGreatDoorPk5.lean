/- Lemmas for this claim. -/
import Derived.Lib.ConvBytes
import Derived.Lib.AppendZeros
import Derived.Lib.AppendZerosOnto
import Derived.Lib.LazyBuf
import Derived.Test.YtiahjipoofeliaaGreatDoorPk4
set_option maxRecDepth 100000
namespace Go.Proofs.YtiahjipoofeliaaGreatDoor
open Go.RowKit
abbrev byteV (b:UInt8):Value:=.int .u8 (b.toNat:Int)
structure BufIs (w:World) (g cap:Nat) (l:List UInt8):Prop where
 cells:∀j,j<l.length→w.cell? ⟨g,j,none⟩=some (byteV (l.getD j 0))
 room:∀j,j<cap→(w.cell? ⟨g,j,none⟩).isSome=true
 free:∀j,j<cap→w.frozen? ⟨g,j,none⟩=false
 le:l.length≤cap
 lt:g<w.heap.size
theorem BufIs.same {w w':World} {g cap:Nat} {l:List UInt8} (h:BufIs w g cap l) (hb:w'.heap[g]? = w.heap[g]?) (hl:w.heap.size≤w'.heap.size):BufIs w' g cap l:=by
 have hc:∀j,w'.cell? ⟨g,j,none⟩=w.cell? ⟨g,j,none⟩:=fun j=>by simp [World.cell?,hb]
 have hf:∀j,w'.frozen? ⟨g,j,none⟩=w.frozen? ⟨g,j,none⟩:=fun j=>by simp [World.frozen?,hb]
 exact⟨fun j hj=>(hc j).trans (h.cells j hj),fun j hj=>by rw[hc];exact h.room j hj,fun j hj=>(hf j).trans (h.free j hj),h.le,Nat.lt_of_lt_of_le h.lt hl⟩
theorem BufIs.calm {w w':World} {g cap:Nat} {l:List UInt8} (h:BufIs w g cap l) (hc:Calm w w'):BufIs w' g cap l:=h.same (hc.block g h.lt) hc.size
theorem cell_setCells (b:Nat):∀(vs:List Value) (o:Nat) (w:World) (j:Nat),(∀i,i<vs.length→(w.cell? ⟨b,o+i,none⟩).isSome=true) →
  (w.setCells b o vs).cell? ⟨b,j,none⟩=if o≤j∧j<o+vs.length then vs[j-o]? else w.cell? ⟨b,j,none⟩
 | [],o,w,j,_=>by rw[if_neg (by simp<;>omega)];rfl
 | v :: r,o,w,j,h=>by
  have h0:=h 0 (by simp)
  have hr:∀i,i<r.length→((w.setCell ⟨b,o,none⟩ v).cell? ⟨b,o+1+i,none⟩).isSome=true:=fun i hi=>by
   rw[World.cell?_setCell_other _ _ _ _ (by simp<;>omega)]
   have:=h (i+1) (by simp;omega)
   rwa[show o+(i+1)=o+1+i by omega]at this
  rw[World.setCells,cell_setCells b r (o+1) (w.setCell ⟨b,o,none⟩ v) j hr]
  by_cases hj:o=j
  ·subst hj
   rw[if_neg (by omega),if_pos (by simp)]
   obtain⟨u,hu⟩:=Option.isSome_iff_exists.1 h0
   simp only[Nat.add_zero]at hu
   simp only[Nat.sub_self,List.getElem?_cons_zero]
   exact World.cell?_setCell_same _ _ _ hu
  ·by_cases hj2:o+1≤j∧j<o+1+r.length
   ·rw[if_pos hj2,if_pos (by simp;omega),show j-o=(j-(o+1))+1 by omega];simp
   ·rw[if_neg hj2,if_neg (by simp;omega),World.cell?_setCell_other _ _ _ _ (by simp<;>omega)]
theorem frozen_setCells (b:Nat):∀(vs:List Value) (o:Nat) (w:World) (a:Addr),(w.setCells b o vs).frozen? a=w.frozen? a
 | [],_,_,_=>rfl
 | v :: r,o,w,a=>by rw[World.setCells,frozen_setCells b r (o+1),World.frozen?_setCell]
theorem keeps_setCells (F:Nat→Prop) (b:Nat):∀(vs:List Value) (o:Nat) (w0 w:World),(F b∨w0.heap.size≤b)→Keeps F w0 w→Keeps F w0 (w.setCells b o vs)
 | [],_,_,_,_,h=>h
 | v :: r,o,w0,w,hp,h=>keeps_setCells F b r (o+1) w0 _ hp (h.setCell (p:=⟨b,o,none⟩) hp v)
theorem size_setCells (b:Nat):∀(vs:List Value) (o:Nat) (w:World),(w.setCells b o vs).heap.size=w.heap.size
 | [],_,_=>rfl
 | v :: r,o,w=>by rw[World.setCells,size_setCells b r (o+1)];simp [World.setCell]
theorem BufIs.over {w:World} {g cap:Nat} {l:List UInt8} (h:BufIs w g cap l) (o:Nat) (x:List UInt8) (hx:o+x.length≤l.length) :
  BufIs (w.setCells g o (x.map byteV)) g cap (l.take o++x++l.drop (o+x.length)):=by
 have hs:∀i,i<(x.map byteV).length→(w.cell? ⟨g,o+i,none⟩).isSome=true:=fun i hi=>h.room _ (by simp at hi;have:=h.le;omega)
 have hlen:(l.take o++x++l.drop (o+x.length)).length=l.length:=by simp;omega
 refine⟨fun j hj=>?_,fun j hj=>?_,fun j hj=>?_,by rw[hlen];exact h.le,by rw[size_setCells];exact h.lt⟩
 ·rw[hlen]at hj
  rw[cell_setCells g _ o w j hs]
  by_cases hc:o≤j∧j<o+(x.map byteV).length
  ·rw[if_pos hc]
   simp only[List.length_map]at hc
   rw[List.getElem?_map,List.getD_eq_getElem?_getD,List.append_assoc,List.getElem?_append_right (by simp;omega),List.getElem?_append_left (by simp;omega)]
   have:j-(l.take o).length=j-o:=by simp;omega
   rw[this,List.getElem?_eq_getElem (by omega:j-o<x.length)];rfl
  ·rw[if_neg hc,h.cells j hj]
   simp only[List.length_map]at hc
   congr 2
   rw[List.getD_eq_getElem?_getD,List.getD_eq_getElem?_getD]
   congr 1
   by_cases hlt:j<o
   ·rw[List.append_assoc,List.getElem?_append_left (by simp;omega),List.getElem?_take_of_lt hlt]
   ·rw[List.getElem?_append_right (by simp;omega),List.getElem?_drop]
    congr 1;simp;omega
 ·rw[cell_setCells g _ o w j hs]
  split
  ·rename_i hc;rw[List.getElem?_eq_getElem (by omega)];rfl
  ·exact h.room j hj
 ·rw[frozen_setCells];exact h.free j hj
section
variable {P:Program}
theorem conv_bytes (w:World) (src dst e:TypeId) (s:ByteArray) {u:TypeDesc} (hs:P.underlying src=some u) (hd:P.underlying dst=some (.slice e)) (he:P.underlying e=some (.int .u8)) :
  ∃g cap w',(convert src dst (.string s)).run P w=.ok (.slice (some ⟨g,0,none⟩) s.size cap) w'∧BufIs w' g cap s.data.toList∧Calm w w'∧w.heap.size≤g:=by
 have hcalm:Calm w (Lib.bytesWorld w e s):=⟨by simp [Lib.bytesWorld,World.freeze];rfl,by simp [Lib.bytesWorld,World.freeze],by simp [Lib.bytesWorld,World.freeze];rfl,by rw[Lib.bytesWorld_size];omega,fun k hk=>Lib.bytesWorld_at_old w e s k hk⟩
 have hge:s.size≤grownCap w s.size 0 e:=grownCap_ge w s.size 0 e
 have hsz:(Lib.bytesCells w e s).size=grownCap w s.size 0 e:=by simp [Lib.bytesCells];have:s.data.size=s.size:=rfl;omega
 refine⟨w.heap.size,grownCap w s.size 0 e,Lib.bytesWorld w e s,Lib.run_convert_string_bytes w src dst e s hs hd he,⟨fun j hj=>?_,fun j hj=>?_,fun j hj=>?_,by simpa using hge,by rw[Lib.bytesWorld_size];omega⟩,hcalm,Nat.le_refl _⟩
 ·exact Lib.bytesWorld_cell w e s j (by simpa using hj)
 ·simp [World.cell?,Lib.bytesWorld_at_new,hsz,hj]
 ·simp [World.frozen?,Lib.bytesWorld_at_new,hsz];omega
theorem conv_string (w:World) (src dst e:TypeId) (hs:P.underlying src=some (.slice e)) (he:P.underlying e=some (.int .u8)) (hd:P.underlying dst=some .string) {g cap:Nat} {l:List UInt8} (h:BufIs w g cap l) (c:Nat) :
  (convert src dst (.slice (some ⟨g,0,none⟩) l.length c)).run P w=.ok (.string ⟨l.toArray⟩) w:=by
 have:=run_convert_bytes_arg (P:=P) w src e hs he g 0 l.length c (l.map fun b=>(b.toNat:Int)) (by simp) (fun i hi=>by
  rw[Nat.zero_add,h.cells i hi]
  simp [List.getD_eq_getElem?_getD,List.getElem?_eq_getElem hi]) dst hd
 rw[this]
 congr 2
 apply ba_ext
 rw[strOfNums_data,List.map_map]
 conv=>rhs;rw[←List.map_id l]
 simp [Function.comp_def]
theorem copy_over (w:World) (dT sT ty e:TypeId) (hu:P.underlying dT=some (.slice e)) (hz:∀w,(Go.sizeOf e).run P w=.ok 1 w) {g cap:Nat} {l:List UInt8} (h:BufIs w g cap l) (o:Nat) (x:ByteArray) (hx:o+x.size≤l.length) (c:Nat) :
  (Builtin.copy_ #[dT,sT] ty #[.slice (some ⟨g,o,none⟩) (l.length-o) c,.string x]).run P w=.ok (goInt x.size) (w.setCells g o (x.data.toList.map byteV)) :=
 run_copy_string w dT sT ty e g o (l.length-o) c x hu hz (by omega) (fun j hj=>h.room _ (by have:=h.le;omega)) (fun j hj=>h.free _ (by have:=h.le;omega))
theorem zeroCells_u8 (n:Nat):(Builtin.zeroCells #[Value.int .u8 0] n).toList=(List.replicate n (0:UInt8)).map byteV:=by
 apply List.ext_getElem?
 intro j
 simp only[Builtin.zeroCells,Array.toList_map,Array.toList_range,List.getElem?_map,List.getElem?_range,List.map_replicate]
 by_cases hj:j<n
 ·rw[List.getElem?_range (by simpa using hj),List.getElem?_replicate,if_pos hj]
  simp [Nat.mod_one]
 ·rw[List.getElem?_eq_none (by simpa using hj),List.getElem?_replicate,if_neg hj];rfl
theorem append_zeros (w:World) (t tn ty e:TypeId) (i:TypeInfo) (kn:IntKind) (ht:P.underlying t=some (.slice e)) (htn:P.underlying tn=some (.int kn)) (hi:P.info? e=some i) (hz:i.zero=some (.int .u8 0)) (h1:i.size=1) (hb1:i.bytes=1)
  {g cap:Nat} {l:List UInt8} (h:BufIs w g cap l) (n:Nat) (h0:0<n) (hl:l.length+n≤4294967296) :
  ∃g' cap' w',(Builtin.append_ #[t,tn] ty #[.slice (some ⟨g,0,none⟩) l.length cap,.int .i64 n]).run P w=.ok (.slice (some ⟨g',0,none⟩) (l.length+n) cap') w' ∧
   BufIs w' g' cap' (l++List.replicate n 0)∧Keeps (· = g) w w'∧(g'=g∨w.heap.size≤g'):=by
 have hn:n≠0:=by omega
 have hw:IntKind.i64.wrap (n:Int)=n:=by rw[IntKind.wrap_i64];omega
 have hneg:¬((n:Int)<0):=by omega
 have h48i:¬(281474976710656<(n:Int)):=by omega
 by_cases hroom:l.length+n≤cap
 ·have hst:=run_storeCells_cells (P:=P) g l.length (Builtin.zeroCells #[Value.int .u8 0] n).toList 0 w (by rw[zeroCells_u8];intro j hj;simp at hj;exact h.room _ (by omega)) (by rw[zeroCells_u8];intro j hj;simp at hj;exact h.free _ (by omega)) (by
   rw[zeroCells_u8];intro v hv;obtain⟨x,_,rfl⟩:=List.mem_map.1 hv;rfl)
  rw[zeroCells_u8]at hst
  refine⟨g,cap,w.setCells g l.length ((List.replicate n (0:UInt8)).map byteV),?_,?_,keeps_setCells _ g _ _ _ _ (.inl rfl) (Keeps.refl _ _),.inl rfl⟩
  ·have hzc:(Builtin.zeroCells (Value.int .u8 0).cells n).toList=(List.replicate n (0:UInt8)).map byteV:=zeroCells_u8 n
   simp [Builtin.append_,run_underlying ht,run_underlying htn,sizeOf,typeInfo,zeroValue,hi,hz,h1,hb1,asInt,asIntOf,hw,hn,hneg,h48i,hroom,Addr.add_lit]
   simp at hzc hst
   rw[hzc,hst]
   rfl
  ·have hs:∀i,i<((List.replicate n (0:UInt8)).map byteV).length→(w.cell? ⟨g,l.length+i,none⟩).isSome=true:=fun i hi=>h.room _ (by simp at hi;omega)
   refine⟨fun j hj=>?_,fun j hj=>?_,fun j hj=>?_,by simpa using hroom,by rw[size_setCells];exact h.lt⟩
   ·rw[cell_setCells g _ _ w j hs]
    simp only[List.length_append,List.length_replicate]at hj
    by_cases hc:l.length≤j
    ·rw[if_pos (by simp;omega),List.getD_eq_getElem?_getD,List.getElem?_append_right hc,List.getElem?_map,List.getElem?_replicate,if_pos (by omega)];rfl
    ·rw[if_neg (by simp;omega),h.cells j (by omega),List.getD_eq_getElem?_getD,List.getD_eq_getElem?_getD,List.getElem?_append_left (by omega)]
   ·rw[cell_setCells g _ _ w j hs]
    split
    ·rename_i hc;rw[List.getElem?_eq_getElem (by omega)];rfl
    ·exact h.room j hj
   ·rw[frozen_setCells];exact h.free j hj
 ·have hold:(Builtin.firstCells i.size l.length (.slice (some ⟨g,0,none⟩) l.length cap)).run P w.drew=.ok (l.map byteV).toArray w.drew:=by
   refine run_firstCells_some (P:=P) w.drew i.size l.length ⟨g,0,none⟩ l.length cap (l.map byteV) (by simp [h1]) ?_
   intro j v hj
   have hjl:j<l.length:=by
    rcases Nat.lt_or_ge j l.length with h'|h'
    ·exact h'
    ·rw[List.getElem?_eq_none (by simpa using h')]at hj;cases hj
   have hplain:(⟨g,0,none⟩:Addr).add j=⟨g,j,none⟩:=by unfold Addr.add;split<;>simp_all
   rw[hplain]
   have:=h.cells j hjl
   rw[List.getElem?_map,List.getElem?_eq_getElem hjl]at hj
   cases hj
   rw[List.getD_eq_getElem?_getD,List.getElem?_eq_getElem hjl]at this
   exact this
  have hcap:cap<l.length+n:=by omega
  have hfit:Builtin.nextslicecap (l.length+n) cap * i.bytes≤281474976710656:=growslice_fits hcap (by rw[hb1];omega)
  have hr:=Lib.run_append_grow_zeros (P:=P) w t tn ty e i (.int .u8 0) .i64 kn ht htn hi hz (some ⟨g,0,none⟩) l.length cap (l.map byteV) hold n h0 (by omega) hcap (by omega) (by rw[hb1];omega) hfit
  have hge:=grownCap_ge w (l.length+n) cap e
  refine⟨w.heap.size,_,_,hr,?_,(Keeps.refl _ w).drew.alloc _,.inr (Nat.le_refl _)⟩
  have hrow:=heap_new w.drew (.cells ((l.map byteV).toArray++Builtin.zeroCells (Value.int .u8 0).cells n++Builtin.zeroCells (Value.int .u8 0).cells (grownCap w (l.length+n) cap e-(l.length+n))) e)
  have hz1:=zeroCells_u8 n
  have hz2:=zeroCells_u8 (grownCap w (l.length+n) cap e-(l.length+n))
  have harr:((l.map byteV).toArray++Builtin.zeroCells (Value.int .u8 0).cells n++Builtin.zeroCells (Value.int .u8 0).cells (grownCap w (l.length+n) cap e-(l.length+n)))=((l++List.replicate n 0++List.replicate (grownCap w (l.length+n) cap e-(l.length+n)) 0).map byteV).toArray:=by
   apply Array.toList_inj.1
   simp only[Array.toList_append,List.map_append]
   show (l.map byteV)++(Builtin.zeroCells #[Value.int .u8 0] n).toList++(Builtin.zeroCells #[Value.int .u8 0] _).toList=_
   rw[hz1,hz2]
  rw[harr]at hrow ⊢
  have hsz:w.drew.heap.size=w.heap.size:=rfl
  rw[hsz]at hrow
  have hl2:(l++List.replicate n (0:UInt8)++List.replicate (grownCap w (l.length+n) cap e-(l.length+n)) 0).length=grownCap w (l.length+n) cap e:=by simp;omega
  refine⟨fun j hj=>?_,fun j hj=>?_,fun j hj=>?_,by simpa using hge,by simp⟩
  ·rw[cell_of hrow j]
   rw[List.getElem?_toArray,List.getElem?_map,List.getElem?_append_left hj,List.getElem?_eq_getElem hj,List.getD_eq_getElem?_getD,List.getElem?_eq_getElem hj];rfl
  ·rw[cell_of hrow j,List.getElem?_toArray,List.getElem?_eq_getElem (by rw[List.length_map,hl2];exact hj)];rfl
  ·exact free_of hrow j
theorem wpList_copy_run (w:World) {ops:Array Oper} {rest:List Oper} {o:Oper} {a:Act} {Q:Exit→Act→World→Prop} (hgd:o.guard=none) (d x:Operand) (t tn:TypeId)
  (ho:o.op=.call { callee:=.builtin .copy,args:=#[d,x],argTypes:=#[t,tn] }) (vd vx:Value) (hd:a.eval d=vd) (hx:a.eval x=vx)
  (v':Value) (w':World) (hr:(Builtin.copy_ #[t,tn] o.type #[vd,vx]).run P w=.ok v' w') (h:wpList P ops Q rest (a.put o.dst v') w'):wpList P ops Q (o :: rest) a w:=by
 refine wpList_plain hgd fun K hK=>?_
 unfold Oper.wp execOp
 simp only[ho,resolve,invoke,builtin,Sem.run_bind,Sem.run_pure,Result.andThen_ok,List.map_toArray,List.map_cons,List.map_nil,hd,hx,hr]
 exact hK _ _ h
end
end Go.Proofs.YtiahjipoofeliaaGreatDoor

namespace Go.Proofs.YtiahjipoofeliaaGreatDoor.dk
open Go.ChangeShapes Go.WideShapes Go.ChangeAt Go.RowKit
section
variable {p mb:Nat} {wv:Value} {D:DiskS} {F:Nat→Prop}
def DiskS.all (D:DiskS) (n:ByteArray):ByteArray×Int :=
 if D.down then (⟨#[]⟩,8) else match D.find n with|none=>(⟨#[]⟩,9)|some f=>(f.now,0)
theorem bars_one (n:ByteArray):D.bars [n]=if D.down then 8 else if D.has n then 0 else 9:=by unfold DiskS.bars;simp
set_option maxHeartbeats 1000000 in
theorem All_in (w:World) (n:ByteArray) (h:DiskIn w p mb wv D):Calls Tryz.prog 161 #[ptrTo p,.string n] w fun e w'=>e=.returned (.tuple #[.string (D.all n).1,.int .i64 (D.all n).2])∧Calm w w':=by
 have hcalm:Calm w (w.alloc (.cells #[.string n] 9)):=(Calm.refl w).alloc _
 have h1:=h.calm hcalm
 obtain⟨c0,c1,c2,c3,c4⟩:=h1.cells
 have hlook:=h1.look n
 have Hb:=box (bars_any (p:=p) (mb:=mb) (wv:=wv) (D:=D) (.slice (some ⟨w.heap.size,0,none⟩) 1 1) [n] (w.alloc (.cells #[.string n] 9)) h1 (StrsAt.one (by go_cell)) (by simp))
 have hb1:=box (bars_one (D:=D) n)
 cases hd:D.down
 ·cases hf:D.find n with
  | none =>
   have hh:D.has n=false:=by unfold DiskS.has;rw[hf];rfl
   have hres:=box (show D.all n=(⟨#[]⟩,9) by unfold DiskS.all;rw[hd,hf];rfl)
   have hb2:=box (show D.bars [n]=9 by rw[hb1.out,hd,hh];rfl)
   clear hb1 h h1 hf hh hd
   rw[hres.out]
   go_enter Tryz.func161,Tryz.ntmps161
   go_wp2_with fail
   refine Hb.out.mono ?_
   rw[hb2.out]
   rintro e w' ⟨rfl,rfl⟩
   go_wp2_with fail
   go_ret2
   exact⟨rfl,hcalm⟩
  | some f =>
   have hh:D.has n=true:=by unfold DiskS.has;rw[hf];rfl
   have hp:=ptr_some hf
   obtain⟨d0,d1,d2,d3⟩:=h1.file hf
   have hres:=box (show D.all n=(f.now,0) by unfold DiskS.all;rw[hd,hf];rfl)
   have hb2:=box (show D.bars [n]=0 by rw[hb1.out,hd,hh];rfl)
   clear hb1 h h1 hf hh hd
   rw[hres.out]
   go_enter Tryz.func161,Tryz.ntmps161
   go_wp2_with fail
   refine Hb.out.mono ?_
   rw[hb2.out]
   rintro e w' ⟨rfl,rfl⟩
   go_wp2_with fail
   go_ret2
   exact⟨rfl,hcalm⟩
 ·have hres:=box (show D.all n=(⟨#[]⟩,8) by unfold DiskS.all;rw[hd];rfl)
  have hb2:=box (show D.bars [n]=8 by rw[hb1.out,hd];rfl)
  clear hb1 h h1 hd
  rw[hres.out]
  go_enter Tryz.func161,Tryz.ntmps161
  go_wp2_with fail
  refine Hb.out.mono ?_
  rw[hb2.out]
  rintro e w' ⟨rfl,rfl⟩
  go_wp2_with fail
  go_ret2
  exact⟨rfl,hcalm⟩
theorem All_any (w:World) (n:ByteArray) (h:DiskAt w p D F):Calls Tryz.prog 161 #[ptrTo p,.string n] w fun e w'=>e=.returned (.tuple #[.string (D.all n).1,.int .i64 (D.all n).2])∧Calm w w':=by
 obtain⟨mb,wv,h,rfl⟩:=h
 exact All_in w n h
theorem infoByte:(Tryz.prog.info? 5).map (fun i=>(i.zero,i.size,i.bytes))=some (some (.int .u8 0),1,1):=by kernel_rfl
set_option maxHeartbeats 1000000 in
theorem laid_any (s o:ByteArray) (k:Nat) (w:World) (hs:s.size≤1000000000) (ho:o.size≤1000000000) (hk:k≤1000000000) :
  Calls Tryz.prog 67 #[.string s,.int .i64 k,.string o] w fun e w'=>e=.returned (.string (laid s k o))∧Calm w w':=by
 by_cases h0:o.size=0
 ·have h1:o.toList=[]:=by rw[Lib.toList_data];exact List.eq_nil_of_length_eq_zero (by simpa using h0)
  have hr:=box (show laid s k o=s by unfold laid laidL;rw[if_pos (by rw[←Lib.toList_data];exact h1)])
  go_enter Tryz.func67,Tryz.ntmps67
  go_wp2
  go_ret
  exact⟨ret_str (by rw[hr.out]),Calm.refl _⟩
 ·have h1:o.toList.isEmpty=false:=by rw[Lib.toList_data,List.isEmpty_eq_false_iff];intro h;apply h0;simpa using congrArg List.length h
  obtain⟨g,cap,W1,hconv,hbuf,hcalm,hg⟩:=conv_bytes (P:=Tryz.prog) w 9 130 5 s Tryz.underlying9 Tryz.underlying130 Tryz.underlying5
  obtain⟨i0,hi,hz0,hz1,hz2⟩:=info_parts infoByte
  by_cases h2:(s.size:Int)<k+o.size
  ·obtain⟨n,hn⟩:∃n:Nat,((k:Int)+o.size-s.size)=n:=⟨k+o.size-s.size,by omega⟩
   obtain⟨g2,cap2,W2,happ,hbuf2,hkeep2,hg2⟩:=append_zeros (P:=Tryz.prog) W1 130 3 130 5 i0 .i64 Tryz.underlying130 Tryz.underlying3 hi hz0 hz1 hz2 hbuf n (by omega) (by simp;omega)
   rw[←hn]at happ
   simp only[size_toList]at happ
   have Happ:=box happ
   clear happ
   have hz1:n+s.size=k+o.size:=by omega
   have hle2:=hbuf2.le
   simp only[List.length_append,List.length_replicate,size_toList]at hle2
   have hk2:k<cap2:=by omega
   have hk3:k<s.size+n:=by omega
   have hk4:¬cap2=k:=by omega
   have hb3:=hbuf2.over k o.data.toList (by simp;omega)
   have hlen3:((s.data.toList++List.replicate n (0:UInt8)).take k++o.data.toList++(s.data.toList++List.replicate n (0:UInt8)).drop (k+o.data.toList.length)).length=s.size+n:=by simp;omega
   have hcopy:=box (copy_over (P:=Tryz.prog) W2 130 9 3 5 Tryz.underlying130 (fun _=>by kernel_rfl) hbuf2 k o (by simp;omega) (cap2-k))
   have hback:=conv_string (P:=Tryz.prog) _ 130 9 5 Tryz.underlying130 Tryz.underlying5 Tryz.underlying9 hb3 cap2
   rw[hlen3]at hback
   have hres:=box (show laid s k o=⟨((s.data.toList++List.replicate n (0:UInt8)).take k++o.data.toList++(s.data.toList++List.replicate n (0:UInt8)).drop (k+o.data.toList.length)).toArray⟩ by
    unfold laid laidL pad
    rw[if_neg (by intro h;apply h0;simpa using congrArg List.length h),show k+o.data.toList.length-s.data.toList.length=n by simp;omega])
   obtain⟨L,hL⟩:∃L,((s.data.toList++List.replicate n (0:UInt8)).take k++o.data.toList++(s.data.toList++List.replicate n (0:UInt8)).drop (k+o.data.toList.length))=L:=⟨_,rfl⟩
   rw[hL]at hback hres
   have hlen2:(s.data.toList++List.replicate n (0:UInt8)).length-k=s.size+n-k:=by simp
   rw[hlen2]at hcopy
   have hcalm3:=box (show Calm w (W2.setCells g2 k (o.data.toList.map byteV)) from by
    have hk2':Keeps (fun b=>w.heap.size≤b) w (W2.setCells g2 k (o.data.toList.map byteV)) :=
     keeps_setCells _ g2 _ _ _ _ (.inl (by rcases hg2 with h|h;rw[h];exact hg;have:=hcalm.size;omega)) ((Keeps.of_calm hcalm).trans' (hkeep2.mono fun b hb e=>by subst e;exact hg))
    exact hk2'.below (Nat.le_refl _) (fun b hb=>hb))
   have Hn:=box hn
   clear hn hz1 hL hlen2 hlen3 hb3
   go_enter Tryz.func67,Tryz.ntmps67
   go_wp2_with (first|(at_builtin;refine Lib.wpList_append_run _ rfl _ _ _ _ rfl _ _ rfl rfl _ _ Happ.out ?_)|(refine wpList_copy_run _ rfl _ _ _ _ rfl _ _ rfl rfl _ _ hcopy.out ?_))
   go_ret
   exact⟨ret_str (by rw[hres.out]),hcalm3.out⟩
  ·have hle2:=hbuf.le
   simp only[size_toList]at hle2
   have hk2:k<cap:=by omega
   have hk3:k<s.size:=by omega
   have hk4:¬cap=k:=by omega
   have hb3:=hbuf.over k o.data.toList (by simp;omega)
   have hlen3:(s.data.toList.take k++o.data.toList++s.data.toList.drop (k+o.data.toList.length)).length=s.size:=by simp;omega
   have hcopy:=box (copy_over (P:=Tryz.prog) W1 130 9 3 5 Tryz.underlying130 (fun _=>by kernel_rfl) hbuf k o (by simp;omega) (cap-k))
   have hback:=conv_string (P:=Tryz.prog) _ 130 9 5 Tryz.underlying130 Tryz.underlying5 Tryz.underlying9 hb3 cap
   rw[hlen3]at hback
   have hres:=box (show laid s k o=⟨(s.data.toList.take k++o.data.toList++s.data.toList.drop (k+o.data.toList.length)).toArray⟩ by
    unfold laid laidL pad
    rw[if_neg (by intro h;apply h0;simpa using congrArg List.length h),show k+o.data.toList.length-s.data.toList.length=0 by simp;omega,List.replicate_zero,List.append_nil])
   obtain⟨L,hL⟩:∃L,(s.data.toList.take k++o.data.toList++s.data.toList.drop (k+o.data.toList.length))=L:=⟨_,rfl⟩
   rw[hL]at hback hres
   rw[size_toList]at hcopy
   have hcalm3:=box (show Calm w (W1.setCells g k (o.data.toList.map byteV)) from by
    have hk2':Keeps (fun b=>w.heap.size≤b) w (W1.setCells g k (o.data.toList.map byteV)) :=
     keeps_setCells _ g _ _ _ _ (.inl hg) (Keeps.of_calm hcalm)
    exact hk2'.below (Nat.le_refl _) (fun b hb=>hb))
   clear hL hlen3 hb3
   go_enter Tryz.func67,Tryz.ntmps67
   go_wp2_with (first|(refine wpList_copy_run _ rfl _ _ _ _ rfl _ _ rfl rfl _ _ hcopy.out ?_))
   go_ret
   exact⟨ret_str (by rw[hres.out]),hcalm3.out⟩
end
end Go.Proofs.YtiahjipoofeliaaGreatDoor.dk
