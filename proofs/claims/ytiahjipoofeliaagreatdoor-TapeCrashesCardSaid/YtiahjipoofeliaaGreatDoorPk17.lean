/- Lemmas for this claim. -/
import Derived.RangeFuncBox
import Derived.RangeFuncLeaves
import Derived.OwnWalkIn
import Derived.TacticsInMore
import Derived.LoopNIn
import Derived.LoopIn
import Derived.Maps.AppendAt
import Derived.Test.YtiahjipoofeliaaGreatDoorPk16
set_option maxRecDepth 100000
namespace Go.Proofs.YtiahjipoofeliaaGreatDoor.vs
open Go.RowKit Go.Shelf Go.Maps Go.Sort
attribute [local go_sem] Oper.semAt_some
abbrev VF:Nat:=254
abbrev VI:Nat:=266
def upto {α:Type} (f:Nat→α) (k:Nat):List α:=(List.range k).map f
theorem upto_succ {α:Type} (f:Nat→α) (k:Nat):upto f (k+1)=upto f k++[f k]:=by simp [upto,List.range_succ]
theorem upto_length {α:Type} (f:Nat→α) (k:Nat):(upto f k).length=k:=by simp [upto]
theorem upto_all (zs:List ByteArray):upto (fun j=>zs[j]?.getD ⟨#[]⟩) zs.length=zs:=by
 apply List.ext_getElem
 ·simp [upto]
 ·intro i h1 h2
  simp [upto,h2]
theorem upto_take (zs:List ByteArray) {k:Nat} (hk:k≤zs.length):upto (fun j=>zs[j]?.getD ⟨#[]⟩) k=zs.take k:=by
 apply List.ext_getElem
 ·simp [upto,hk]
 ·intro i h1 h2
  have:i<zs.length:=by simp [upto]at h1;omega
  simp [upto,this]
set_option maxHeartbeats 2000000 in
theorem values1_in (F:Fence) (n:Nat) (h7:F.fn VI) (hro:F.round=none) (hn:1≤n) (l Bs n₀ b off len cap:Nat) (zs:List ByteArray) (hreach:len * 16≤140737488351232) (hb:b<n₀) (J Jx:List ByteArray→World→Prop)
  (hY:∀pre x W,J pre W→pre.length<len→YieldAt F (n-1) Tryz.prog l #[.string x] W fun e W' =>
   (e=.returned (.bool true)∧J (pre++[x]) W'∧Below n₀ W W')∨(e=.returned (.bool false)∧Jx (pre++[x]) W'))
  (W:World) (hBs:W.cell? ⟨Bs,0,none⟩=some (.slice (some ⟨b,off,none⟩) len cap)) (hc:∀j,j<len→W.cell? ⟨b,off+j,none⟩=some (.string (zs[j]?.getD ⟨#[]⟩))) (h0:J [] W) :
  CallsIn F n Tryz.prog VI #[.func (.yield l) #[] #[],.pointer (some ⟨Bs,0,none⟩)] W fun e W'=>(∃v,e=.returned v) ∧
   ((∃ys,ys=upto (fun j=>zs[j]?.getD ⟨#[]⟩) len∧J ys W')∨(∃pre,(∃k,k≤len∧pre=upto (fun j=>zs[j]?.getD ⟨#[]⟩) k)∧Jx pre W')):=by
 refine callsIn_of_wp Tryz.func266 rfl h7 ?_ hro
 simp only[Tryz.ntmps266,List.size_toArray,List.length_cons,List.length_nil,Nat.reduceAdd,Nat.reduceSub,Array.replicate_succ,Array.replicate_zero,List.push_toArray,List.append_toArray,List.nil_append,List.cons_append]
 gi_wp2
 gi_loopw [7] (fun i wr=>∃k:Nat,k≤len∧i=.int .i64 k∧J (upto (fun j=>zs[j]?.getD ⟨#[]⟩) k) wr∧Below n₀ W wr)
  (fun i _=>len-(intOf i).toNat)
 case atStart=>exact⟨0,Nat.zero_le _,rfl,h0,Below.refl _ _⟩
 case round =>
  obtain⟨k,hk,rfl,hJs,hnx⟩:=hrel
  have hcx:k<len→wr.cell? ⟨b,off+k,none⟩=some (.string (zs[k]?.getD ⟨#[]⟩)):=fun h=>(hnx.cell (p:=⟨b,off+k,none⟩) hb).trans (hc k h)
  by_cases hlt:k<len
  ·obtain⟨fn,tmps,assign,body,hy,hR⟩:=hY _ (zs[k]?.getD ⟨#[]⟩) wr hJs (by rw[upto_length];exact hlt)
   have hcx':=hcx hlt
   gi_wp2
   refine hR.mono ?_
   rintro e W3 (⟨rfl,hJ3,hk3⟩|⟨rfl,hJx3⟩)
   ·gi_wp2
    go_roundw
    case rel=>exact⟨k+1,by omega,by simp,by rw[upto_succ];exact hJ3,hnx.trans hk3⟩
    case measure=>simp [intOf];omega
   ·gi_wp2
    refine bodyPost_ret (results_none rfl _ _ _) rfl ?_
    exact⟨⟨_,rfl⟩,.inr ⟨_,⟨k+1,by omega,(upto_succ _ _).symm⟩,hJx3⟩⟩
  ·obtain rfl:k=len:=by omega
   gi_wp2
   go_end0
   exact⟨⟨_,rfl⟩,.inl ⟨_,rfl,hJs⟩⟩
def Texts (n₀:Nat) (W:World) (sv:Value) (zs:List ByteArray):Prop :=
 (∃a cap,sv=.slice a 0 cap∧zs=[])∨∃b off cap,sv=.slice (some ⟨b,off,none⟩) zs.length cap∧b<n₀∧∀j,j<zs.length→W.cell? ⟨b,off+j,none⟩=some (.string (zs[j]?.getD ⟨#[]⟩))
theorem Texts.below {n₀:Nat} {A B:World} (h:Below n₀ A B) {sv:Value} {zs:List ByteArray}:Texts n₀ A sv zs→Texts n₀ B sv zs
 | .inl e=>.inl e
 | .inr ⟨b,off,cap,e,hb,hc⟩=>.inr ⟨b,off,cap,e,hb,fun j hj=>(h.cell (p:=⟨b,off+j,none⟩) hb).trans (hc j hj)⟩
set_option maxHeartbeats 1000000 in
theorem values1_nil_in (F:Fence) (n:Nat) (h7:F.fn VI) (hro:F.round=none) (l Bs:Nat) (a:Option Addr) (cap:Nat) (J:List ByteArray→World→Prop) (W:World) (hBs:W.cell? ⟨Bs,0,none⟩=some (.slice a 0 cap)) (h0:J [] W) :
  CallsIn F n Tryz.prog VI #[.func (.yield l) #[] #[],.pointer (some ⟨Bs,0,none⟩)] W fun e W'=>(∃v,e=.returned v)∧J [] W':=by
 refine callsIn_of_wp Tryz.func266 rfl h7 ?_ hro
 simp only[Tryz.ntmps266,List.size_toArray,List.length_cons,List.length_nil,Nat.reduceAdd,Nat.reduceSub,Array.replicate_succ,Array.replicate_zero,List.push_toArray,List.append_toArray,List.nil_append,List.cons_append]
 gi_wp2
 gi_loopw [7] (fun i wr=>i=.int .i64 0∧J [] wr) (fun _ _=>0)
 case atStart=>exact⟨rfl,h0⟩
 case round =>
  obtain⟨rfl,hJs⟩:=hrel
  gi_wp2
  go_end0
  exact⟨⟨_,rfl⟩,hJs⟩
theorem Values_any (a:Option Addr) (len cap:Nat) (w:World) :
  Calls Tryz.prog VF #[.slice a len cap] w fun e w'=>e=.returned (.func (.func VI) #[] #[.pointer (some ⟨w.heap.size,0,none⟩)])∧w'=w.alloc (.cells #[.slice a len cap] 61):=by
 go_enter Tryz.func254,Tryz.ntmps254
 go_wp2
 go_ret
 exact⟨rfl,rfl⟩
theorem values_stops (F:Fence) (n:Nat) (h7:F.fn VI) (hro:F.round=none) (hn:1≤n) (Bs n₀:Nat) (sv:Value) (zs:List ByteArray) (hreach:zs.length * 16≤140737488351232) (w:World) (hBs:Bs<w.heap.size) (hn₀:n₀≤w.heap.size)
  (hc:w.cell? ⟨Bs,0,none⟩=some sv) (hI:Texts n₀ w sv zs) :
  SeqStopsK F n Tryz.prog VI #[.pointer (some ⟨Bs,0,none⟩)] (fun x:ByteArray=>#[Value.string x]) (Below n₀) (fun ys=>ys=zs) (fun pre=>pre <+: zs) zs.length w:=fun l J Jx W hW _ _ hY h0=>by
 have hc':=(hW.cell (p:=⟨Bs,0,none⟩) hBs).trans hc
 rcases hI.below (hW.mono hn₀) with ⟨a,cap,rfl,rfl⟩|⟨b,off,cap,rfl,hb,hcs⟩
 ·exact(values1_nil_in F n h7 hro l Bs a cap J W hc' h0).mono fun e W' ⟨he,hj⟩=>⟨he,.inl ⟨_,rfl,hj⟩⟩
 ·refine(values1_in F n h7 hro hn l Bs n₀ b off zs.length cap zs hreach hb J Jx hY W hc' hcs h0).mono ?_
  rintro e W' ⟨he,⟨ys,rfl,hj⟩|⟨pre,⟨k,hk,rfl⟩,hj⟩⟩
  ·exact⟨he,.inl ⟨_,upto_all zs,hj⟩⟩
  ·exact⟨he,.inr ⟨_,by rw[upto_take zs hk];exact List.take_prefix _ _,hj⟩⟩
theorem infoStr:(Tryz.prog.info? 9).map (fun i=>(i.zero,i.size,i.bytes))=some (some (.string ⟨#[]⟩),1,16):=by kernel_rfl
set_option maxHeartbeats 2000000 in
theorem appendSeq_in (F:Fence) (n:Nat) (h3:F.fn 169) (h7:F.fn VI) (hro:F.round=none) (hn:3≤n) (Bs n₀:Nat) (sv:Value) (zs:List ByteArray) (hlen:zs.length≤1000000) (w:World) (hBs:Bs<w.heap.size) (hn₀:n₀≤w.heap.size)
  (hc:w.cell? ⟨Bs,0,none⟩=some sv) (hI:Texts n₀ w sv zs) :
  CallsIn F n Tryz.prog 169 #[.slice none 0 0,.func (.func VI) #[] #[.pointer (some ⟨Bs,0,none⟩)]] w fun e W'=>∃v,e=.returned v∧W'.ownsRow w.heap.size 9 1 v zs.length (zs.map Value.string)∧(v=.slice none 0 0↔zs=[])∧Below w.heap.size w W':=by
 have h1:1≤n:=by omega
 obtain⟨i0,hi,hz0,hz1,hz2⟩:=info_parts infoStr
 refine callsIn_of_wp_marks Tryz.func169 rfl h3 ?_ hro
 simp only[Tryz.ntmps169,List.size_toArray,List.length_cons,List.length_nil,Nat.reduceAdd,Nat.reduceSub,Array.replicate_succ,Array.replicate_zero,List.push_toArray,List.append_toArray,List.nil_append,List.cons_append]
 gi_wp2
 have bO:=Boxed.new w 61 (.slice none 0 0)
 have hB0:Below w.heap.size w (w.alloc (.cells #[.slice none 0 0] 61)):=(Below.refl _ w).alloc (Nat.le_refl _) _
 have hc0:(w.alloc (.cells #[.slice none 0 0] 61)).cell? ⟨Bs,0,none⟩=some sv:=(hB0.cell (p:=⟨Bs,0,none⟩) hBs).trans hc
 refine wpIn_rangeFunc_ownG hro h1 (gf:=VI) (lb:=#[.pointer (some ⟨Bs,0,none⟩)]) rfl h7 (enters_of Tryz.func266 (by kernel_rfl) rfl)
  (values_stops F (n-1) h7 hro (by omega) Bs n₀ sv zs (by omega) _ (by simp;omega) (by simp;omega) hc0 (hI.below (hB0.mono hn₀))) belowK_t (belowK_b (by simp;omega)) (Below.refl _ _) (fun _=>rfl)
  (fun pre W=>(∃v,Boxed W w.heap.size 61 v∧W.ownsRow w.heap.size 9 1 v pre.length (pre.map Value.string)∧(v=.slice none 0 0↔pre=[]))∧Below w.heap.size w W)
  (fun _ _ _=>False)
  (OwnFrom.and (Own.from (holdsRow_own w.heap.size w.heap.size 61 9 1 (fun pre=>pre.length) (fun pre=>pre.map Value.string) (fun pre v=>v=.slice none 0 0↔pre=[])) _) (ownFrom_below (Nat.le_refl _) (by simp)))
  (fun _ _ _ _ _ hs _ _=>hs)
  ⟨⟨_,bO,World.ownsRow_nil _ _ _ _,by simp⟩,hB0⟩
  (fun x=>{ tmps:=#[.slice none 0 0,.func (.func VI) #[] #[.pointer (some ⟨Bs,0,none⟩)],.pointer (some ⟨w.heap.size,0,none⟩),undef,.slice none 0 0,.string x,.func (.func VI) #[] #[.pointer (some ⟨Bs,0,none⟩)],.string x,undef,undef,undef,undef,undef],defers:=[] }) ?assign ?body ?done ?stop
 case assign =>
  intro l x W K hK
  gi_wp2
  exact hK
 case body =>
  rintro l pre x W ⟨⟨v,hv,hrow,hnil⟩,hB⟩ hlt
  have hc:=hv.cell
  gi_wp2_with (gi_at_builtin;refine wpListIn_append_own _ rfl _ _ 61 rfl w.heap.size 9 i0 (.string ⟨#[]⟩) 1 16 Tryz.underlying61 hi hz0 hz1 hz2 rfl (by decide) _ _ _ rfl (hrow.alloc _) ⟨W.heap.size,0,none⟩ 1 1 [.string x] rfl rfl (cell_one_new _ _ _) (by simp [Value.oneCell']) (by unfold maxLen;omega) (by omega) (by have:=hB.size;simp;omega) ?_;intro v' w1 hown' hgrow _;obtain⟨g',cap',rfl⟩:=ownsRow_succ hown';obtain⟨hv1,hv2,hr2,hk2,hb2⟩:=hv.appended (by decide) hrow hB.size (Nat.le_refl _) hown' hgrow;have hc1:=hv1.cell;have hf1:=hv1.frozen)
  exact⟨hk2.from _,hb2.mono hn₀,⟨_,hv2,by simpa using hr2,by simp⟩,hB.trans hb2⟩
 case done =>
  rintro D ys W hD rfl ⟨⟨v,hv,hrow,hnil⟩,hB⟩ hK
  have hc:=hv.cell
  gi_wp2
  refine⟨by simp,.inl ⟨_,_,rfl,run_takeDeferred hK,?_⟩⟩
  exact⟨_,results_tmp rfl _ _ _,v,rfl,ownsRow_putObj hrow _ hK rfl,hnil,hB.trans (belowK_b (w:=w) (Nat.le_refl _) W D _ _ (by simp at hD;omega) hK rfl rfl)⟩
 case stop =>
  rintro D c pre W _ _ h _
  exact h.elim
end Go.Proofs.YtiahjipoofeliaaGreatDoor.vs
