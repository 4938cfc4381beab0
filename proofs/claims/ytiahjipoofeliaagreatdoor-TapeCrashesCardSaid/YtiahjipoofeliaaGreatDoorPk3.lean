/- Lemmas for this claim. -/
import Derived.Maps.RangeWalk
import Derived.Test.YtiahjipoofeliaaGreatDoorPk2
set_option maxRecDepth 100000
namespace Go.Proofs.YtiahjipoofeliaaGreatDoor
open Go.RowKit Go.MapKept Go.ChangeMaps
def RangeIs (w:World) (b r:Nat) (d:TypeDesc) (m left:List (Value×Value)):Prop :=
 ∃es clock since seen c0,w.heap[b]? = some (.map es clock)∧Stamped es clock∧es.toList.map (fun e=>(e.key,e.val))=m∧(∀x∈es.toList,IsKey d x.key) ∧
  w.heap[r]? = some (.mapIter (some b) since seen c0)∧(∀x∈es.toList,x.born<since)∧since≤c0∧since≤clock ∧
  left=(es.toList.filter fun e=>!seen.contains e.born).map fun e=>(e.key,e.val)
theorem filter_split {α:Type} {β:Type} [BEq β] [LawfulBEq β] (f:α→β) (g:α→Bool):∀(l:List α),(l.map f).Nodup→∀x∈l,g x=true →
  ∃l1 l2,l.filter g=l1++x :: l2∧l.filter (fun y=>g y && !(f y==f x))=l1++l2
 | [],_,x,hx,_=>by cases hx
 | a :: l,hn,x,hx,hg=>by
  rw[List.map_cons,List.nodup_cons]at hn
  by_cases ha:a=x
  ·subst ha
   refine⟨[],l.filter g,by simp [List.filter_cons,hg],?_⟩
   have:∀y∈l,(f y==f a)=false:=fun y hy=>by
    rw[beq_eq_false_iff_ne];intro e;exact hn.1 (List.mem_map.2 ⟨y,hy,e⟩)
   rw[List.filter_cons]
   simp only[beq_self_eq_true,Bool.not_true,Bool.and_false,Bool.false_eq_true,if_false,List.nil_append]
   exact List.filter_congr (fun y hy=>by rw[this y hy];simp)
  ·have hx':x∈l:=(List.mem_cons.1 hx).resolve_left (fun e=>ha e.symm)
   obtain⟨l1,l2,h1,h2⟩:=filter_split f g l hn.2 x hx' hg
   have hne:(f a==f x)=false:=by rw[beq_eq_false_iff_ne];intro e;exact hn.1 (List.mem_map.2 ⟨x,hx',e.symm⟩)
   cases hga:g a
   ·exact⟨l1,l2,by simp [List.filter_cons,hga,h1],by simp [List.filter_cons,hga,h2]⟩
   ·exact⟨a :: l1,l2,by simp [List.filter_cons,hga,h1],by simp [List.filter_cons,hga,hne,h2]⟩
section
variable {P:Program} {w:World} {t k e:TypeId} {b r:Nat} {d:TypeDesc} {m left:List (Value×Value)}
theorem RangeIs.map (h:RangeIs w b r d m left):MapIs w b d m:=by
 obtain⟨es,clock,since,seen,c0,h1,h2,h3,h4,_⟩:=h
 exact⟨es,clock,h1,h2,h3,h4⟩
theorem RangeIs.same {w':World} (h:RangeIs w b r d m left) (hb:w'.heap[b]? = w.heap[b]?) (hr:w'.heap[r]? = w.heap[r]?):RangeIs w' b r d m left:=by
 obtain⟨es,clock,since,seen,c0,h1,h2,h3,h4,h5,h6⟩:=h
 exact⟨es,clock,since,seen,c0,hb.trans h1,h2,h3,h4,hr.trans h5,h6⟩
theorem RangeIs.left_eq (h:RangeIs w b r d m left):w.rangeLeft b r=left.length:=by
 obtain⟨es,clock,since,seen,c0,h1,h2,h3,h4,h5,h6,h7,h8,rfl⟩:=h
 simp only[World.rangeLeft,h1,h5,leftOf,List.length_map]
 rw[←Array.toList_filter,Array.length_toList]
theorem MapIs.range (h:MapIs w b d m) (ht:P.underlying t=some (.map k e)) :
  ∃o,(Instr.range t (.map (some b))).run P w=.ok (.pointer (some ⟨w.heap.size,0,none⟩)) (w.alloc o)∧RangeIs (w.alloc o) b w.heap.size d m m:=by
 obtain⟨es,clock,h1,h2,h3,h4⟩:=h
 refine⟨_,run_range_map w t k e b es clock ht h1,⟨es,clock,clock,#[],clock,heap_old w _ h1,h2,h3,h4,heap_new w _,h2.1,Nat.le_refl _,Nat.le_refl _,?_⟩⟩
 rw[←h3];simp only[Array.contains_empty,Bool.not_false];rw[List.filter_eq_self.2 (fun _ _=>rfl)]
theorem RangeIs.next (h:RangeIs w b r d m left) (ty:TypeId) :
  (left=[]∧(Instr.next (.pointer (some ⟨r,0,none⟩)) false ty).run P w=.ok (.tuple #[.bool false]) w) ∨
  ∃l1 x l2 w',left=l1++x :: l2∧(Instr.next (.pointer (some ⟨r,0,none⟩)) false ty).run P w=.ok (.tuple #[.bool true,x.1,x.2]) w' ∧
   RangeIs w' b r d m (l1++l2)∧(Instr.entry (.pointer (some ⟨r,0,none⟩))).run P w'=.ok (.tuple #[x.1,x.2]) w'∧Keeps (· = r) w w'∧w'.heap.size=w.heap.size∧x∈m:=by
 obtain⟨es,clock,since,seen,c0,h1,h2,h3,h4,h5,h6,h7,h8,rfl⟩:=h
 rcases run_next_at (P:=P) w ty r b since c0 seen es clock h5 h1 h6 h7 with ⟨h0,hrun⟩|⟨e,he,w1,hal,hrun⟩
 ·refine .inl ⟨?_,hrun⟩
  unfold leftOf at h0
  rw[←Array.length_toList,Array.toList_filter]at h0
  rw[List.eq_nil_of_length_eq_zero h0];rfl
 ·obtain⟨hem,hes⟩:=mem_left he
  obtain⟨l1,l2,e1,e2⟩:=filter_split (·.born) (fun e=>!seen.contains e.born) es.toList h2.2.1 e hem (by simp only[hes];rfl)
  have hr1:w1.heap[r]? = some (.mapIter (some b) since seen c0):=by rcases hal with rfl|rfl<;>exact h5
  have hb1:w1.heap[b]? = some (.map es clock):=by rcases hal with rfl|rfl<;>exact h1
  have hne:b≠r:=by intro e0;rw[e0,h5]at h1;cases h1
  have hb':(setBlock w1 r (.mapIter (some b) since (seen.push e.born) clock)).heap[b]? = some (.map es clock):=by rw[heap_put_other _ _ hne];exact hb1
  have hr':(setBlock w1 r (.mapIter (some b) since (seen.push e.born) clock)).heap[r]? = some (.mapIter (some b) since (seen.push e.born) clock):=by
   have hlt:=heap_lt hr1
   simp [setBlock,hlt]
  refine .inr ⟨l1.map (fun e=>(e.key,e.val)),(e.key,e.val),l2.map (fun e=>(e.key,e.val)),_,by rw[e1];simp,hrun,⟨es,clock,since,seen.push e.born,clock,hb',h2,h3,h4,hr',h6,h8,h8,?_⟩,run_entry_at _ r b since seen es clock e hr' hb' hem h2.2.1,?_,?_,?_⟩
  ·rw[←List.map_append,←e2]
   congr 1
   exact List.filter_congr (fun y _=>by rw[contains_push];simp [Bool.not_or])
  ·rcases hal with rfl|rfl
   ·exact(Keeps.refl (· = r) _).setObj (.inl rfl) _
   ·exact((Keeps.refl (· = r) w).drew).setObj (.inl rfl) _
  ·rcases hal with rfl|rfl<;>simp [setBlock]
  ·rw[←h3];exact List.mem_map.2 ⟨e,hem,rfl⟩
theorem wpList_range_list {ops:Array Oper} {rest:List Oper} {o:Oper} {a:Act} {Q:Exit→Act→World→Prop} (hg:o.guard=none) (x:Operand) (hop:o.op=Op.range t x) (ht:P.underlying t=some (.map k e))
  (hm:a.eval x=.map (some b)) (h:MapIs w b d m)
  (hK:∀w',RangeIs w' b w.heap.size d m m→Calm w w'→w'.heap.size=w.heap.size+1→wpList P ops Q rest (a.put o.dst (.pointer (some ⟨w.heap.size,0,none⟩))) w') :
  wpList P ops Q (o :: rest) a w:=by
 refine wpList_plain hg fun K' hK'=>?_
 obtain⟨ob,hrun,hr⟩:=h.range (P:=P) ht
 unfold Oper.wp
 simp [execOp,hop,hm,hrun,Result.andThen]
 exact hK' _ _ (hK _ hr ((Calm.refl w).alloc _) (by simp))
theorem wpList_next_list {ops:Array Oper} {rest:List Oper} {o:Oper} {a:Act} {Q:Exit→Act→World→Prop} (hg:o.guard=none) (it:Operand) (hop:o.op=Op.next it false)
  (hit:a.eval it=.pointer (some ⟨r,0,none⟩)) (h:RangeIs w b r d m left)
  (hDone:left=[]→wpList P ops Q rest (a.put o.dst (.tuple #[.bool false])) w)
  (hMore:∀l1 x1 x2 l2 w',left=l1++(x1,x2) :: l2→RangeIs w' b r d m (l1++l2)→(Instr.entry (.pointer (some ⟨r,0,none⟩))).run P w'=.ok (.tuple #[x1,x2]) w'→Keeps (· = r) w w'→w'.heap.size=w.heap.size→(x1,x2)∈m →
   wpList P ops Q rest (a.put o.dst (.tuple #[.bool true,x1,x2])) w') :
  wpList P ops Q (o :: rest) a w:=by
 refine wpList_plain hg fun K' hK'=>?_
 unfold Oper.wp
 rcases h.next (P:=P) o.type with ⟨h0,hrun⟩|⟨l1,x,l2,w',hl,hrun,hr,hen,hk,hs,hm⟩
 ·simp [execOp,hop,hit,hrun,Result.andThen]
  exact hK' _ _ (hDone h0)
 ·simp [execOp,hop,hit,hrun,Result.andThen]
  exact hK' _ _ (hMore l1 x.1 x.2 l2 w' hl hr hen hk hs hm)
end
end Go.Proofs.YtiahjipoofeliaaGreatDoor
