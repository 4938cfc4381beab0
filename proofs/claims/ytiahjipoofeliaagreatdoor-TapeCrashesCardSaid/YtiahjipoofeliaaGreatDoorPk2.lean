/- Lemmas for this claim. -/
import Derived.Maps.Own
import Derived.Maps.OwnOps
import Derived.Maps.OwnSet
import Derived.Test.YtiahjipoofeliaaGreatDoorPk1
set_option maxRecDepth 100000
namespace Go.Proofs.YtiahjipoofeliaaGreatDoor
open Go.RowKit Go.MapKept Go.ChangeMaps
def MapIs (w:World) (b:Nat) (d:TypeDesc) (m:List (Value×Value)):Prop :=
 ∃es clock,w.heap[b]? = some (.map es clock)∧Stamped es clock∧es.toList.map (fun e=>(e.key,e.val))=m∧∀x∈es.toList,IsKey d x.key
section
variable {P:Program} {w:World} {t k e:TypeId} {b:Nat} {d:TypeDesc} {m:List (Value×Value)}
theorem MapIs.lt (h:MapIs w b d m):b<w.heap.size:=by obtain⟨es,c,hb,_⟩:=h;exact heap_lt hb
theorem MapIs.calm {w':World} (h:MapIs w b d m) (hc:Calm w w'):MapIs w' b d m:=by
 obtain⟨es,c,hb,r⟩:=h;exact⟨es,c,heap_calm hc hb,r⟩
theorem MapIs.same {w':World} (h:MapIs w b d m) (hc:w'.heap[b]? = w.heap[b]?):MapIs w' b d m:=by
 obtain⟨es,c,hb,r⟩:=h;exact⟨es,c,hc.trans hb,r⟩
theorem MapIs.nodup (h:MapIs w b d m):(m.map (·.1)).Nodup:=by
 obtain⟨es,c,_,hs,rfl,_⟩:=h
 have:=hs.2.2
 simpa [List.map_map,Function.comp_def] using this
theorem MapIs.made (w:World) (d:TypeDesc):MapIs (w.alloc (.map #[] 0)) w.heap.size d [] :=
 ⟨#[],0,heap_new w _,stamped_empty 0,rfl,by simp⟩
theorem MapIs.keys (h:MapIs w b d m):∀x∈m,IsKey d x.1:=by
 obtain⟨es,c,_,_,rfl,hk⟩:=h
 intro x hx
 obtain⟨y,hy,rfl⟩:=List.mem_map.1 hx
 exact hk y hy
theorem MapIs.hit (h:MapIs w b d m) (ht:P.underlying t=some (.map k e)) (hk:P.underlying k=some d) {key v:Value} (hkey:IsKey d key) (hm:(key,v)∈m) (ok:Bool) :
  (Instr.lookup t (.map (some b)) key ok).run P w=.ok (if ok then .tuple #[v,.bool true] else v) w:=by
 obtain⟨es,c,hb,hs,rfl,hks⟩:=h
 obtain⟨y,hy,he⟩:=List.mem_map.1 hm
 simp only[Prod.mk.injEq]at he
 obtain⟨rfl,rfl⟩:=he
 rcases findNow_spec hkey es.toList 0 hks with ⟨h1,h2⟩|⟨j,e0,h1,h2,h3⟩
 ·exact absurd rfl (h2 y hy)
 ·have h0:e0∈es.toList:=List.mem_of_getElem? h2
  have:e0=y:=by
   have hn:=hs.2.2
   exact nodup_inj hn h0 hy h3
  subst this
  cases ok<;>simp [Instr.lookup,run_underlying ht,MapKept.run_getObj_map hb,run_checkKey hk hkey,run_findKey hk h1,Result.andThen]
theorem MapIs.miss (h:MapIs w b d m) (ht:P.underlying t=some (.map k e)) (hk:P.underlying k=some d) {key z:Value} (hkey:IsKey d key) (hz:(zeroValue e).run P w=.ok z w) (hm:∀x∈m,x.1≠key) (ok:Bool) :
  (Instr.lookup t (.map (some b)) key ok).run P w=.ok (if ok then .tuple #[z,.bool false] else z) w:=by
 obtain⟨es,c,hb,hs,rfl,hks⟩:=h
 rcases findNow_spec hkey es.toList 0 hks with ⟨h1,h2⟩|⟨j,e0,h1,h2,h3⟩
 ·cases ok<;>simp [Instr.lookup,run_underlying ht,MapKept.run_getObj_map hb,run_checkKey hk hkey,run_findKey hk h1,Result.andThen,hz]
 ·exact absurd h3 (hm (e0.key,e0.val) (List.mem_map.2 ⟨e0,List.mem_of_getElem? h2,rfl⟩))
theorem MapIs.add (h:MapIs w b d m) (ht:P.underlying t=some (.map k e)) (hk:P.underlying k=some d) {key:Value} (v:Value) (hkey:IsKey d key) (hm:∀x∈m,x.1≠key) :
  ∃o,(Instr.mapUpdate t (.map (some b)) key v).run P w=.ok () (setBlock w b o)∧MapIs (setBlock w b o) b d (m++[(key,v)]):=by
 obtain⟨es,c,hb,hs,rfl,hks⟩:=h
 rcases findNow_spec hkey es.toList 0 hks with ⟨h1,h2⟩|⟨j,e0,h1,h2,h3⟩
 ·refine⟨.map (es.push ⟨key,v,c⟩) (c+1),?_,⟨es.push ⟨key,v,c⟩,c+1,heap_setBlock_same hb _,stamped_push hs h2,by simp,?_⟩⟩
  ·simp [Instr.mapUpdate,run_underlying ht,MapKept.run_getObj_map hb,run_checkKey hk hkey,run_findKey hk h1,MapKept.run_setObj_map _ hb,Result.andThen,setBlock]
  ·intro x hx
   simp only[Array.toList_push,List.mem_append,List.mem_singleton]at hx
   rcases hx with hx|rfl
   ·exact hks x hx
   ·exact hkey
 ·exact absurd h3 (hm (e0.key,e0.val) (List.mem_map.2 ⟨e0,List.mem_of_getElem? h2,rfl⟩))
theorem MapIs.del (ht:P.underlying t=some (.map k e)) (hk:P.underlying k=some d) {key v0:Value} {m1 m2:List (Value×Value)} (h:MapIs w b d (m1++(key,v0) :: m2)) (hkey:IsKey d key) :
  ∃o,(∀ty,(Builtin.delete_ #[t,k] ty #[.map (some b),key]).run P w=.ok (.tuple #[]) (setBlock w b o))∧MapIs (setBlock w b o) b d (m1++m2):=by
 obtain⟨es,c,hb,hs,he,hks⟩:=h
 have hin:(key,v0)∈es.toList.map (fun e=>(e.key,e.val)):=by rw[he];simp
 obtain⟨y,hy,hye⟩:=List.mem_map.1 hin
 simp only[Prod.mk.injEq]at hye
 rcases findNow_spec hkey es.toList 0 hks with ⟨h1,h2⟩|⟨j,e0,h1,h2,h3⟩
 ·exact absurd hye.1 (h2 y hy)
 ·have hjl:j<es.toList.length:=(List.getElem?_eq_some_iff.1 h2).1
  have hjs:j<es.size:=by simpa using hjl
  have hsub:(es.eraseIdxIfInBounds j).toList=es.toList.eraseIdx j:=by
   unfold Array.eraseIdxIfInBounds
   rw[dif_pos hjs]
   simp
  refine⟨.map (es.eraseIdxIfInBounds j) c,?_,⟨_,c,heap_setBlock_same hb _,stamped_erase hs j,?_,?_⟩⟩
  ·intro ty;simp [Builtin.delete_,run_underlying ht,MapKept.run_getObj_map hb,run_checkKey hk hkey,run_findKey hk h1,MapKept.run_setObj_map _ hb,Result.andThen,setBlock]
  ·rw[hsub,map_eraseIdx,he]
   have hjm:(m1++(key,v0) :: m2)[j]? = some (key,e0.val):=by rw[←he,List.getElem?_map,h2];simp [h3]
   have hn:((m1++(key,v0) :: m2).map (·.1)).Nodup:=by
    rw[←he];have:=hs.2.2;simpa [List.map_map,Function.comp_def] using this
   have hlen:j=m1.length:=by
    have hmm:(m1++(key,v0) :: m2)[m1.length]? = some (key,v0):=by simp
    have hjl:=(List.getElem?_eq_some_iff.1 hjm).1
    have hml:=(List.getElem?_eq_some_iff.1 hmm).1
    have a1:((m1++(key,v0) :: m2).map (·.1))[j]'(by simpa using hjl)=key:=by
     have:=(List.getElem?_eq_some_iff.1 hjm).2;rw[List.getElem_map,this]
    have a2:((m1++(key,v0) :: m2).map (·.1))[m1.length]'(by simp)=key:=by
     have:=(List.getElem?_eq_some_iff.1 hmm).2;rw[List.getElem_map,this]
    exact nodup_get hn _ _ (a1.trans a2.symm)
   subst hlen
   rw[List.eraseIdx_append_of_length_le (Nat.le_refl _)]
   simp
  ·intro x hx
   rw[hsub]at hx
   exact hks x ((List.eraseIdx_sublist _ _).subset hx)
end
end Go.Proofs.YtiahjipoofeliaaGreatDoor

namespace Go.Proofs.YtiahjipoofeliaaGreatDoor.dk
open Go.ChangeShapes Go.WideShapes Go.ChangeAt Go.RowKit
abbrev ptrTo (b:Nat):Value:=.pointer (some ⟨b,0,none⟩)
def encF (f:FileS):Value×Value:=(.string f.name,ptrTo f.blk)
def encW (x:WaitS):List Value:=[ptrTo x.blk,.int .i64 x.off,.string x.s]
def diskCells (D:DiskS) (mb:Nat) (wv:Value):Array Value:=#[.int .i64 D.left,.bool D.down,.map (some mb),wv,.int .i64 D.cap]
structure DiskIn (w:World) (p mb:Nat) (wv:Value) (D:DiskS):Prop where
 obj:w.heap[p]? = some (.cells (diskCells D mb wv) 93 (0,0))
 map:MapIs w mb .string (D.files.map encF)
 files:∀f∈D.files,w.heap[f.blk]? = some (.cells #[.string f.image,.string f.now] 137 (0,0))
 waits:w.ownsRow 0 133 3 wv D.waits.length (D.waits.flatMap encW)
 blks:(D.files.map (·.blk)).Nodup
 live:∀x∈D.waits,∃f∈D.files,f.blk=x.blk
def foot (p mb:Nat) (wv:Value) (D:DiskS) (b:Nat):Prop:=b=p∨b=mb∨wv.ownBlock=some b∨b∈D.files.map (·.blk)
def DiskAt (w:World) (p:Nat) (D:DiskS) (F:Nat→Prop):Prop:=∃mb wv,DiskIn w p mb wv D∧F=foot p mb wv D
section
variable {w w':World} {p mb:Nat} {wv:Value} {D:DiskS}
theorem DiskIn.names (h:DiskIn w p mb wv D):(D.files.map (·.name)).Nodup:=by
 have h1:=h.map.nodup
 rw[List.map_map]at h1
 generalize D.files=l at h1
 induction l with
 | nil=>simp
 | cons f l ih =>
  rw[List.map_cons,List.nodup_cons]at h1 ⊢
  refine⟨fun hm=>h1.1 ?_,ih h1.2⟩
  obtain⟨g,hg,he⟩:=List.mem_map.1 hm
  exact List.mem_map.2 ⟨g,hg,by simp [encF,he]⟩
theorem find_some {D:DiskS} {n:ByteArray} {f:FileS} (h:D.find n=some f):f∈D.files∧f.name=n:=by
 unfold DiskS.find at h
 exact⟨List.mem_of_find?_eq_some h,by simpa using List.find?_some h⟩
theorem find_none {D:DiskS} {n:ByteArray} (h:D.find n=none):∀f∈D.files,f.name≠n:=by
 unfold DiskS.find at h
 intro f hf he
 have:=List.find?_eq_none.1 h f hf
 simp [he]at this
def DiskS.ptr (D:DiskS) (n:ByteArray):Option Addr:=(D.find n).map fun f=>⟨f.blk,0,none⟩
theorem ptr_some {D:DiskS} {n:ByteArray} {f:FileS} (h:D.find n=some f):D.ptr n=some ⟨f.blk,0,none⟩:=by unfold DiskS.ptr;rw[h];rfl
theorem ptr_none {D:DiskS} {n:ByteArray} (h:D.find n=none):D.ptr n=none:=by unfold DiskS.ptr;rw[h];rfl
theorem DiskIn.look (h:DiskIn w p mb wv D) (n:ByteArray):Sem.run Tryz.prog (Instr.lookup 90 (.map (some mb)) (.string n) false) w=.ok (.pointer (D.ptr n)) w:=by
 cases hf:D.find n with
 | some f =>
  obtain⟨h1,h2⟩:=find_some hf
  rw[ptr_some hf]
  have:=h.map.hit (P:=Tryz.prog) Tryz.underlying90 Tryz.underlying9 (key:=.string n) (v:=ptrTo f.blk) trivial (List.mem_map.2 ⟨f,h1,by simp [encF,h2]⟩) false
  simpa using this
 | none =>
  rw[ptr_none hf]
  have:=h.map.miss (P:=Tryz.prog) (z:=.pointer none) Tryz.underlying90 Tryz.underlying9 (key:=.string n) trivial (by kernel_rfl) (fun x hx=>by
   obtain⟨g,hg,rfl⟩:=List.mem_map.1 hx
   simp only[encF,ne_eq,Value.string.injEq]
   exact find_none hf g hg) false
  simpa using this
theorem DiskIn.cells (h:DiskIn w p mb wv D):w.cell? ⟨p,0,none⟩=some (.int .i64 D.left)∧w.cell? ⟨p,1,none⟩=some (.bool D.down)∧w.cell? ⟨p,2,none⟩=some (.map (some mb))∧w.cell? ⟨p,3,none⟩=some wv∧w.cell? ⟨p,4,none⟩=some (.int .i64 D.cap) :=
 ⟨cell_of h.obj 0,cell_of h.obj 1,cell_of h.obj 2,cell_of h.obj 3,cell_of h.obj 4⟩
theorem DiskIn.free (h:DiskIn w p mb wv D):w.frozen? ⟨p,0,none⟩=false∧w.frozen? ⟨p,1,none⟩=false∧w.frozen? ⟨p,2,none⟩=false∧w.frozen? ⟨p,3,none⟩=false∧w.frozen? ⟨p,4,none⟩=false :=
 ⟨free_of h.obj 0,free_of h.obj 1,free_of h.obj 2,free_of h.obj 3,free_of h.obj 4⟩
theorem DiskIn.file (h:DiskIn w p mb wv D) {n:ByteArray} {f:FileS} (hf:D.find n=some f):w.cell? ⟨f.blk,0,none⟩=some (.string f.image)∧w.cell? ⟨f.blk,1,none⟩=some (.string f.now)∧w.frozen? ⟨f.blk,0,none⟩=false∧w.frozen? ⟨f.blk,1,none⟩=false:=by
 have:=h.files f (find_some hf).1
 exact⟨cell_of this 0,cell_of this 1,free_of this 0,free_of this 1⟩
theorem DiskIn.calm (h:DiskIn w p mb wv D) (hc:Calm w w'):DiskIn w' p mb wv D:=by
 refine⟨heap_calm hc h.obj,h.map.calm hc,fun f hf=>heap_calm hc (h.files f hf),?_,h.blks,h.live⟩
 obtain⟨h1,h2⟩:=h.waits
 refine⟨h1,?_⟩
 rcases h2 with h2|⟨g,cap,cur,r1,r2,r3,r4⟩
 ·exact .inl h2
 ·exact .inr ⟨g,cap,cur,r1,r2,heap_calm hc r3,r4⟩
theorem DiskAt.calm {F:Nat→Prop} (h:DiskAt w p D F) (hc:Calm w w'):DiskAt w' p D F:=by
 obtain⟨mb,wv,h1,h2⟩:=h;exact⟨mb,wv,h1.calm hc,h2⟩
theorem DiskIn.foot_lt (h:DiskIn w p mb wv D):∀b,foot p mb wv D b→b<w.heap.size:=by
 intro b hb
 rcases hb with rfl|rfl|hb|hb
 ·exact heap_lt h.obj
 ·exact h.map.lt
 ·exact(h.waits.lt b hb).2
 ·obtain⟨f,hf,rfl⟩:=List.mem_map.1 hb
  exact heap_lt (h.files f hf)
theorem DiskIn.p_ne_mb (h:DiskIn w p mb wv D):p≠mb:=by
 intro e;obtain⟨es,c,hb,_⟩:=h.map;rw[←e,h.obj]at hb;cases hb
theorem DiskIn.p_ne_file (h:DiskIn w p mb wv D) {f:FileS} (hf:f∈D.files):f.blk≠p:=by
 intro e;have:=h.files f hf;rw[e,h.obj]at this;simp at this
theorem DiskIn.mb_ne_file (h:DiskIn w p mb wv D) {f:FileS} (hf:f∈D.files):f.blk≠mb:=by
 intro e;obtain⟨es,c,hb,_⟩:=h.map;have:=h.files f hf;rw[e,hb]at this;cases this
theorem own_row {v:Value} {n:Nat} {xs:List Value} {base:Nat} {e:TypeId} {size g:Nat} (h:w.ownsRow base e size v n xs) (hg:v.ownBlock=some g):∃cur,w.heap[g]? = some (.cells cur e (0,0)):=by
 rcases h.2 with ⟨rfl,_⟩|⟨g',cap,cur,rfl,_,hc,_⟩
 ·simp [Value.ownBlock]at hg
 ·simp [Value.ownBlock]at hg;subst hg;exact⟨cur,hc⟩
theorem DiskIn.p_ne_row (h:DiskIn w p mb wv D):wv.ownBlock≠some p:=by
 intro e;obtain⟨cur,hc⟩:=own_row h.waits e;rw[h.obj]at hc;simp at hc
theorem DiskIn.mb_ne_row (h:DiskIn w p mb wv D):wv.ownBlock≠some mb:=by
 intro e;obtain⟨cur,hc⟩:=own_row h.waits e;obtain⟨es,c,hb,_⟩:=h.map;rw[hb]at hc;cases hc
theorem DiskIn.file_ne_row (h:DiskIn w p mb wv D) {f:FileS} (hf:f∈D.files):wv.ownBlock≠some f.blk:=by
 intro e;obtain⟨cur,hc⟩:=own_row h.waits e;rw[h.files f hf]at hc;simp at hc
theorem row_same {v:Value} {n:Nat} {xs:List Value} {base:Nat} {e:TypeId} {size:Nat} (h:w.ownsRow base e size v n xs) (hs:∀g,v.ownBlock=some g→w'.heap[g]? = w.heap[g]?):w'.ownsRow base e size v n xs:=by
 obtain⟨h1,h2⟩:=h
 refine⟨h1,?_⟩
 rcases h2 with h2|⟨g,cap,cur,rfl,r2,r3,r4⟩
 ·exact .inl h2
 ·exact .inr ⟨g,cap,cur,rfl,r2,(hs g rfl).trans r3,r4⟩
theorem DiskIn.setObj (h:DiskIn w p mb wv D) {D':DiskS} (k:Nat) (v:Value) (hc:(diskCells D mb wv).setIfInBounds k v=diskCells D' mb wv) (hf:D'.files=D.files) (hw:D'.waits=D.waits) :
  DiskIn (w.setCell ⟨p,k,none⟩ v) p mb wv D':=by
 refine⟨?_,?_,?_,?_,by rw[hf];exact h.blks,by rw[hf,hw];exact h.live⟩
 ·rw[heap_set h.obj,hc]
 ·rw[hf];exact h.map.same (heap_set_other h.p_ne_mb.symm _ _)
 ·intro f hf'
  rw[hf]at hf'
  rw[heap_set_other (h.p_ne_file hf')];exact h.files f hf'
 ·rw[hw];exact row_same h.waits (fun g hg=>heap_set_other (fun e=>h.p_ne_row (by rw[hg,e])) _ _)
end
section
variable {p mb:Nat} {wv:Value} {D:DiskS}
structure Nums (w w':World) (p mb:Nat) (wv:Value) (D':DiskS):Prop where
 disk:DiskIn w' p mb wv D'
 keeps:Keeps (· = p) w w'
 size:w'.heap.size=w.heap.size
theorem done_any (w:World) (h:DiskIn w p mb wv D) (hl:D.left≤9223372036854775807) :
  Calls Tryz.prog 80 #[ptrTo p] w fun e w'=>e=.returned (.int .i64 (if D.burns then 8 else 0))∧Nums w w' p mb wv D.burn:=by
 obtain⟨c0,c1,c2,c3,c4⟩:=h.cells
 obtain⟨f0,f1,f2,f3,f4⟩:=h.free
 have H:=box h
 clear h
 rcases Int.lt_trichotomy D.left 0 with hneg|hz|hpos
 ·have e1:D.burns=false:=by unfold DiskS.burns;rw[decide_eq_false];omega
  have e2:D.burn=D:=by unfold DiskS.burn;rw[if_neg (by omega),if_neg (by omega)]
  have t1:(D.left==0)=false:=by rw[beq_eq_false_iff_ne];omega
  rw[e1,e2]
  go_enter Tryz.func80,Tryz.ntmps80
  go_wp2
  go_ret
  exact⟨rfl,H.out,.refl _ _,rfl⟩
 ·have e1:D.burns=true:=by unfold DiskS.burns;rw[hz];rfl
  have e2:D.burn = { D with left:=-1,down:=true }:=by unfold DiskS.burn;rw[if_pos hz]
  have t1:(D.left==0)=true:=by rw[beq_iff_eq];exact hz
  rw[e1,e2]
  clear hz
  go_enter Tryz.func80,Tryz.ntmps80
  go_wp2
  go_ret
  refine⟨rfl,?_,((Keeps.refl (· = p) w).setCell (p:=⟨p,0,none⟩) (.inl rfl) _).setCell (p:=⟨p,1,none⟩) (.inl rfl) _,by simp [World.setCell]⟩
  exact(H.out.setObj (D':={ D with left:=-1 }) 0 _ rfl rfl rfl).setObj (D':={ D with left:=-1,down:=true }) 1 _ rfl rfl rfl
 ·have e1:D.burns=false:=by unfold DiskS.burns;rw[decide_eq_false];omega
  have e2:D.burn = { D with left:=D.left-1 }:=by unfold DiskS.burn;rw[if_neg (by omega),if_pos hpos]
  have t1:(D.left==0)=false:=by rw[beq_eq_false_iff_ne];omega
  rw[e1,e2]
  go_enter Tryz.func80,Tryz.ntmps80
  go_wp2
  go_ret
  refine⟨rfl,?_,(Keeps.refl (· = p) w).setCell (p:=⟨p,0,none⟩) (.inl rfl) _,by simp [World.setCell]⟩
  exact H.out.setObj (D':={ D with left:=D.left-1 }) 0 _ rfl rfl rfl
theorem bars_snoc (l:List ByteArray) (k:Nat) (hk:k<l.length):(l.take (k+1)).all D.has=((l.take k).all D.has && D.has (l.getD k ByteArray.empty)):=by
 rw[List.take_succ_eq_append_getElem hk,List.all_append];simp [List.getD_eq_getElem?_getD,List.getElem?_eq_getElem hk]
theorem bars_no (l:List ByteArray) (k:Nat) (hk:k<l.length) (h:D.has (l.getD k ByteArray.empty)=false):l.all D.has=false:=by
 rw[List.all_eq_false]
 exact⟨l[k],List.getElem_mem _,by simpa [List.getD_eq_getElem?_getD,List.getElem?_eq_getElem hk] using h⟩
theorem has_none {n:ByteArray} (h:D.has n=false):D.ptr n=none:=by
 unfold DiskS.has at h
 cases hf:D.find n
 ·exact ptr_none hf
 ·rw[hf]at h;cases h
theorem has_some {n:ByteArray} (h:D.has n=true):∃f,D.find n=some f∧D.ptr n=some ⟨f.blk,0,none⟩:=by
 unfold DiskS.has at h
 cases hf:D.find n
 ·rw[hf]at h;cases h
 ·exact⟨_,rfl,ptr_some hf⟩
set_option maxHeartbeats 1000000 in
theorem bars_any (v:Value) (l:List ByteArray) (w:World) (h:DiskIn w p mb wv D) (hv:StrsAt w v l) (hl:l.length≤4294967296) :
  Calls Tryz.prog 79 #[ptrTo p,v] w fun e w'=>e=.returned (.int .i64 (D.bars l))∧w=w':=by
 obtain⟨c0,c1,c2,c3,c4⟩:=h.cells
 obtain⟨a,cap,rfl,hc⟩:=hv.uni
 have Hc:=box hc
 have hlook:=h.look
 clear hc hv h
 cases hd:D.down
 ·rw[hd]at c1
  have hb:=box (show D.bars l=if l.all D.has then 0 else 9 by unfold DiskS.bars;rw[hd];rfl)
  clear hd
  go_enter Tryz.func79,Tryz.ntmps79
  go_wp2
  go_loop [18] (fun i=>∃k:Nat,k≤l.length∧i=.int .i64 k∧(l.take k).all D.has=true) (fun i=>l.length-(intOf i).toNat)
  case atStart=>exact⟨0,Nat.zero_le _,rfl,rfl⟩
  case round =>
   obtain⟨k,hk,rfl,hall⟩:=hrel
   have Hall:=box hall
   clear hall
   by_cases hlt:k<l.length
   ·obtain⟨b,off,rfl,hbl,hcell⟩:=Hc.out k hlt
    have h1:=box (bars_snoc (D:=D) l k hlt)
    have h2:=box (bars_no (D:=D) l k hlt)
    obtain⟨s,hs⟩:∃s,l.getD k ByteArray.empty=s:=⟨_,rfl⟩
    rw[hs]at hcell h1 h2
    clear hs
    cases hh:D.has s
    ·have hp:=has_none hh
     have h3:=box (h2.out hh)
     clear h1 h2 hh
     go_wp2
     go_ret
     exact⟨ret_int (by rw[hb.out,h3.out];rfl),rfl⟩
    ·obtain⟨f,hf,hp⟩:=has_some hh
     have h3:=box (show (l.take (k+1)).all D.has=true by rw[h1.out,Hall.out,hh];rfl)
     clear h1 h2 hh hf
     go_wp2
     go_round
     case rel=>exact⟨k+1,by omega,by go_num,h3.out⟩
     case measure=>simp [intOf];omega
   ·obtain rfl:k=l.length:=by omega
    have h3:=box (show D.bars l=0 by have:=Hall.out;rw[List.take_length]at this;rw[hb.out,this];rfl)
    go_wp2
    go_ret
    exact⟨ret_int (by rw[h3.out]),rfl⟩
 ·rw[hd]at c1
  have hb:=box (show D.bars l=8 by unfold DiskS.bars;rw[hd];rfl)
  clear hd
  go_enter Tryz.func79,Tryz.ntmps79
  go_wp2
  go_ret
  exact⟨ret_int (by rw[hb.out]),rfl⟩
end
section
variable {p mb:Nat} {wv:Value} {D:DiskS}
theorem DiskIn.keep {w:World} (h:DiskIn w p mb wv D) {w':World} {F:Nat→Prop} (k:Keeps F w w') (hF:∀b,foot p mb wv D b→¬F b):DiskIn w' p mb wv D:=by
 have hb:∀b,foot p mb wv D b→w'.heap[b]? = w.heap[b]? := fun b hb=>k.block b (h.foot_lt b hb) (hF b hb)
 refine⟨(hb p (.inl rfl)).trans h.obj,h.map.same (hb mb (.inr (.inl rfl))),fun f hf=>(hb f.blk (.inr (.inr (.inr (List.mem_map.2 ⟨f,hf,rfl⟩))))).trans (h.files f hf),row_same h.waits (fun g hg=>hb g (.inr (.inr (.inl hg)))),h.blks,h.live⟩
theorem burn_files:D.burn.files=D.files∧D.burn.waits=D.waits∧D.burn.cap=D.cap:=by
 unfold DiskS.burn;split
 ·exact⟨rfl,rfl,rfl⟩
 ·split<;>exact⟨rfl,rfl,rfl⟩
theorem burn_find (n:ByteArray):D.burn.find n=D.find n:=by unfold DiskS.find;rw[burn_files.1]
theorem foot_burn:foot p mb wv D.burn=foot p mb wv D:=by unfold foot;rw[burn_files.1]
theorem Nums.step {w w':World} (h:Nums w w' p mb wv D) {F:Nat→Prop} (hp:F p):Step F w F w' :=
 ⟨h.keeps.mono fun b _ e=>e ▸ hp,fun _ h=>.inl h⟩
def DiskS.plus (D:DiskS) (n:ByteArray) (b:Nat):DiskS:={ D with files:=D.files++[⟨n,b,⟨#[]⟩,⟨#[]⟩⟩] }
def CreateDone (D:DiskS) (p:Nat) (F:Nat→Prop) (w:World) (n:ByteArray) (e:Ending) (w':World):Prop :=
 ∃b F',w.heap.size≤b∧e=.returned (.int .i64 (D.create n b).1)∧DiskAt w' p (D.create n b).2 F'∧Step F w F' w'
theorem DiskIn.plus {w:World} (h:DiskIn w p mb wv D) {n:ByteArray} (hn:D.has n=false) {o:Obj}
  (hm:MapIs (ChangeMaps.setBlock (w.alloc (.cells #[.string ⟨#[]⟩,.string ⟨#[]⟩] 137)) mb o) mb .string (D.files.map encF++[(.string n,ptrTo w.heap.size)])) :
  DiskIn (ChangeMaps.setBlock (w.alloc (.cells #[.string ⟨#[]⟩,.string ⟨#[]⟩] 137)) mb o) p mb wv (D.plus n w.heap.size):=by
 have hc:Calm w (w.alloc (.cells #[.string ⟨#[]⟩,.string ⟨#[]⟩] 137)):=(Calm.refl w).alloc _
 have h1:=h.calm hc
 have hlt:∀f∈D.files,f.blk<w.heap.size:=fun f hf=>heap_lt (h.files f hf)
 refine⟨?_,?_,?_,?_,?_,?_⟩
 ·rw[heap_put_other _ _ h1.p_ne_mb];exact h1.obj
 ·simpa [DiskS.plus,encF] using hm
 ·intro f hf
  rcases List.mem_append.1 hf with hf|hf
  ·rw[heap_put_other _ _ (h1.mb_ne_file hf)];exact h1.files f hf
  ·rw[List.mem_singleton]at hf
   subst hf
   rw[heap_put_other _ _ (by have:=h.map.lt;simp only[];omega)];exact heap_new w _
 ·exact row_same h1.waits (fun g hg=>heap_put_other _ _ (fun e=>h1.mb_ne_row (by rw[hg,e])))
 ·simp only[DiskS.plus,List.map_append,List.map_cons,List.map_nil]
  refine List.nodup_append.2 ⟨h.blks,by simp,?_⟩
  intro a ha b hb e
  rw[List.mem_singleton]at hb
  obtain⟨f,hf,rfl⟩:=List.mem_map.1 ha
  have:=hlt f hf
  omega
 ·intro x hx
  obtain⟨f,hf,he⟩:=h.live x hx
  exact⟨f,List.mem_append_left _ hf,he⟩
theorem bars_nil:D.bars []=if D.down then 8 else 0:=by unfold DiskS.bars;rfl
set_option maxHeartbeats 2000000 in
theorem Create_in (w:World) (n:ByteArray) (h:DiskIn w p mb wv D) (hl:D.left≤9223372036854775807) :
  Calls Tryz.prog 138 #[ptrTo p,.string n] w (CreateDone D p (foot p mb wv D) w n):=by
 obtain⟨c0,c1,c2,c3,c4⟩:=h.cells
 have hlook:=h.look n
 have Hb:=box (fun W hW=>bars_any (p:=p) (mb:=mb) (wv:=wv) (D:=D) (.slice none 0 0) [] W hW (.inl ⟨rfl,_,_,rfl⟩) (by simp))
 have H:=box h
 clear h
 cases hd:D.down
 ·have hbars:=box (show D.bars []=0 by rw[bars_nil,hd];rfl)
  cases hh:D.has n
  ·have hp:=has_none hh
   have hn:=box hh
   cases hbn:D.burns
   ·have hc:=box (show ∀b,D.create n b=(0,D.burn.plus n b) by intro b;unfold DiskS.create DiskS.doing;rw[hd,hn.out,hbn];rfl)
    clear hd hh
    have Hbn:=box hbn
    clear hbn
    go_enter Tryz.func138,Tryz.ntmps138
    go_wp2_with fail
    refine(Hb.out _ H.out).mono ?_
    rw[hbars.out]
    rintro e w' ⟨rfl,rfl⟩
    go_wp2_with fail
    refine(done_any _ H.out hl).mono ?_
    rw[Hbn.out]
    rintro e w' ⟨rfl,hN⟩
    obtain⟨d0,d1,d2,d3,d4⟩:=hN.disk.cells
    have hsz:=box hN.size
    have hmiss:∀x∈D.burn.files.map encF,x.1≠.string n:=by
     intro x hx
     obtain⟨g,hg,rfl⟩:=List.mem_map.1 hx
     simp only[encF,ne_eq,Value.string.injEq]
     refine find_none ?_ g hg
     rw[burn_find]
     have:=hn.out;unfold DiskS.has at this;cases hf:D.find n;rfl;rw[hf]at this;cases this
    have hno:D.burn.has n=false:=by have:=hn.out;unfold DiskS.has at this ⊢;rw[burn_find];exact this
    obtain⟨o,hrun,hmap⟩:=(hN.disk.map.calm ((Calm.refl w').alloc (.cells #[.string ⟨#[]⟩,.string ⟨#[]⟩] 137))).add (P:=Tryz.prog) Tryz.underlying90 Tryz.underlying9 (key:=.string n) (ptrTo w'.heap.size) trivial hmiss
    have hfin:=box (show DiskIn (ChangeMaps.setBlock (w'.alloc (.cells #[.string ⟨#[]⟩,.string ⟨#[]⟩] 137)) mb o) p mb wv (D.burn.plus n w'.heap.size) from hN.disk.plus hno hmap)
    have HN:=box hN
    clear hmap hmiss hno hN
    go_wp2_with fail
    go_ret
    refine⟨w'.heap.size,foot p mb wv (D.burn.plus n w'.heap.size),by rw[hsz.out];exact Nat.le_refl _,ret_int (by rw[hc.out]),?_,?_⟩
    ·rw[hc.out];exact⟨mb,wv,hfin.out,rfl⟩
    ·refine⟨((HN.out.keeps.mono fun b _ e=>.inl e).alloc _).setObj (.inl (.inr (.inl rfl))) _,?_⟩
     rintro b (hb|hb|hb|hb)
     ·exact .inl (.inl hb)
     ·exact .inl (.inr (.inl hb))
     ·exact .inl (.inr (.inr (.inl hb)))
     ·simp only[DiskS.plus,List.map_append,List.map_cons,List.map_nil,List.mem_append,List.mem_singleton,burn_files.1]at hb
      rcases hb with hb|hb
      ·exact .inl (.inr (.inr (.inr hb)))
      ·exact .inr (by rw[hb,hsz.out];exact Nat.le_refl _)
   ·have hc:=box (show ∀b,D.create n b=(8,D.burn) by intro b;unfold DiskS.create DiskS.doing;rw[hd,hn.out,hbn];rfl)
    clear hd hh
    have Hbn:=box hbn
    clear hbn
    go_enter Tryz.func138,Tryz.ntmps138
    go_wp2_with fail
    refine(Hb.out _ H.out).mono ?_
    rw[hbars.out]
    rintro e w' ⟨rfl,rfl⟩
    go_wp2_with fail
    refine(done_any _ H.out hl).mono ?_
    rw[Hbn.out]
    rintro e w' ⟨rfl,hN⟩
    go_wp2_with fail
    go_ret
    refine⟨w.heap.size,foot p mb wv D.burn,Nat.le_refl _,ret_int (by rw[hc.out]),?_,?_⟩
    ·rw[hc.out];exact⟨mb,wv,hN.disk,rfl⟩
    ·rw[foot_burn];exact hN.step (.inl rfl)
  ·obtain⟨f,hf,hp⟩:=has_some hh
   have hc:=box (show ∀b,D.create n b=(10,D) by intro b;unfold DiskS.create;rw[hd,hh];rfl)
   clear hd hh hf
   go_enter Tryz.func138,Tryz.ntmps138
   go_wp2_with fail
   refine(Hb.out _ H.out).mono ?_
   rw[hbars.out]
   rintro e w' ⟨rfl,rfl⟩
   go_wp2_with fail
   go_ret
   refine⟨w.heap.size,foot p mb wv D,Nat.le_refl _,ret_int (by rw[hc.out]),?_,.refl _ _⟩
   rw[hc.out];exact⟨mb,wv,H.out,rfl⟩
 ·have hbars:=box (show D.bars []=8 by rw[bars_nil,hd];rfl)
  have hc:=box (show ∀b,D.create n b=(8,D) by intro b;unfold DiskS.create;rw[hd];rfl)
  clear hd
  go_enter Tryz.func138,Tryz.ntmps138
  go_wp2_with fail
  refine(Hb.out _ H.out).mono ?_
  rw[hbars.out]
  rintro e w' ⟨rfl,rfl⟩
  go_wp2_with fail
  go_ret
  refine⟨w.heap.size,foot p mb wv D,Nat.le_refl _,ret_int (by rw[hc.out]),?_,.refl _ _⟩
  rw[hc.out];exact⟨mb,wv,H.out,rfl⟩
theorem Create_any {F:Nat→Prop} (w:World) (n:ByteArray) (h:DiskAt w p D F) (hl:D.left≤9223372036854775807) :
  Calls Tryz.prog 138 #[ptrTo p,.string n] w (CreateDone D p F w n):=by
 obtain⟨mb,wv,h1,rfl⟩:=h
 exact Create_in w n h1 hl
end
end Go.Proofs.YtiahjipoofeliaaGreatDoor.dk
