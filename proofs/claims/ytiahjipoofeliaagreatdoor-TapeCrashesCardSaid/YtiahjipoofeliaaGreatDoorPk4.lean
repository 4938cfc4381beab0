/- Lemmas for this claim. -/
import Derived.Deep.QuietTactic
import Derived.BigQuiet
import Derived.Deep.RegionHeld3
import Derived.Test.YtiahjipoofeliaaGreatDoorPk3
set_option maxRecDepth 100000
namespace Go.Proofs.YtiahjipoofeliaaGreatDoor.dk
open Go.ChangeShapes Go.WideShapes Go.ChangeAt Go.RowKit
section
variable {p mb:Nat} {wv:Value} {D:DiskS} {F:Nat→Prop}
theorem Down_any (w:World) (h:DiskAt w p D F):Calls Tryz.prog 63 #[ptrTo p] w fun e w'=>e=.returned (.bool D.down)∧w=w':=by
 obtain⟨mb,wv,h,rfl⟩:=h
 obtain⟨c0,c1,c2,c3,c4⟩:=h.cells
 clear h
 go_enter Tryz.func63,Tryz.ntmps63
 go_wp2
 go_ret
 exact⟨ret_bool (by simp),rfl⟩
theorem Waits_any (w:World) (h:DiskAt w p D F):Calls Tryz.prog 33 #[ptrTo p] w fun e w'=>e=.returned (.int .i64 D.waits.length)∧w=w':=by
 obtain⟨mb,wv,h,rfl⟩:=h
 obtain⟨c0,c1,c2,c3,c4⟩:=h.cells
 have hv:∃a cap,wv=.slice a D.waits.length cap:=by
  rcases h.waits.2 with ⟨rfl,h0⟩|⟨g,cap,cur,rfl,_⟩
  ·exact⟨none,0,by rw[h0]⟩
  ·exact⟨_,cap,rfl⟩
 obtain⟨a,cap,rfl⟩:=hv
 clear h
 go_enter Tryz.func33,Tryz.ntmps33
 go_wp2
 go_ret
 exact⟨rfl,rfl⟩
theorem Fuse_any (w:World) (n:Int) (h:DiskAt w p D F):Calls Tryz.prog 24 #[ptrTo p,.int .i64 n] w fun e w'=>e=.returned (.tuple #[])∧DiskAt w' p (D.fuse n) F∧Step F w F w':=by
 obtain⟨mb,wv,h,rfl⟩:=h
 obtain⟨c0,c1,c2,c3,c4⟩:=h.cells
 obtain⟨f0,f1,f2,f3,f4⟩:=h.free
 have H:=box h
 clear h
 by_cases hn:n < -1
 ·have e1:D.fuse n = { D with left:=-1 }:=by unfold DiskS.fuse;rw[show max n (-1) = -1 by omega]
  rw[e1]
  go_enter Tryz.func24,Tryz.ntmps24
  go_wp2
  go_end0
  exact⟨rfl,⟨mb,wv,H.out.setObj (D':={ D with left:=-1 }) 0 _ rfl rfl rfl,rfl⟩,⟨(Keeps.refl _ w).setCell (p:=⟨p,0,none⟩) (.inl (.inl rfl)) _,fun _ h=>.inl h⟩⟩
 ·have e1:D.fuse n = { D with left:=n }:=by unfold DiskS.fuse;rw[show max n (-1)=n by omega]
  rw[e1]
  go_enter Tryz.func24,Tryz.ntmps24
  go_wp2
  go_end0
  exact⟨rfl,⟨mb,wv,H.out.setObj (D':={ D with left:=n }) 0 _ rfl rfl rfl,rfl⟩,⟨(Keeps.refl _ w).setCell (p:=⟨p,0,none⟩) (.inl (.inl rfl)) _,fun _ h=>.inl h⟩⟩
def NewDone (n:Int) (w:World) (e:Ending) (w':World):Prop:=∃p F,e=.returned (ptrTo p)∧DiskAt w' p (new n) F∧Calm w w'∧∀b,F b→w.heap.size≤b
theorem new_lies (w:World) (n c:Int) (hc:min (max n 0) 16777216=c) :
  NewDone n w (.returned (ptrTo (w.heap.size+1))) ((w.alloc (.map #[] 0)).alloc (.cells #[.int .i64 (-1),.bool false,.map (some w.heap.size),.slice none 0 0,.int .i64 c] 93)):=by
 refine⟨w.heap.size+1,_,rfl,⟨w.heap.size,.slice none 0 0,⟨?_,?_,?_,?_,?_,?_⟩,rfl⟩,((Calm.refl w).alloc _).alloc _,?_⟩
 ·have:=heap_new (w.alloc (.map #[] 0)) (.cells #[.int .i64 (-1),.bool false,.map (some w.heap.size),.slice none 0 0,.int .i64 c] 93)
  rw[World.size_alloc]at this
  rw[this];simp [diskCells,new,hc]
 ·exact(MapIs.made w .string).calm ((Calm.refl _).alloc _)
 ·intro f hf;cases hf
 ·exact World.ownsRow_nil _ _ _ _
 ·exact List.nodup_nil
 ·intro x hx;cases hx
 ·rintro b (rfl|rfl|hb|hb)
  ·omega
  ·exact Nat.le_refl _
  ·cases hb
  ·cases hb
theorem New_any (w:World) (n:Int):Calls Tryz.prog 7 #[.int .i64 n] w (NewDone n w):=by
 have hmm:=@run_makeMap Tryz.prog
 have H:=box (fun c hc=>new_lies w n c hc)
 by_cases h1:n<0
 ·go_enter Tryz.func7,Tryz.ntmps7
  go_wp2
  go_ret
  exact H.out 0 (by omega)
 ·by_cases h2:16777216<n
  ·go_enter Tryz.func7,Tryz.ntmps7
   go_wp2
   go_ret
   exact H.out 16777216 (by omega)
  ·go_enter Tryz.func7,Tryz.ntmps7
   go_wp2
   go_ret
   exact H.out n (by omega)
theorem total_split (l1 l2:List FileS) (f:FileS):total (l1++f :: l2)=f.now.size+total (l1++l2):=by
 unfold total
 induction l1 with
 | nil=>rfl
 | cons g l ih=>simp only[List.cons_append,List.map_cons,List.foldr_cons]at ih ⊢;omega
set_option maxHeartbeats 1000000 in
theorem Size_in (w:World) (h:DiskIn w p mb wv D) (hsz:D.size≤4294967295):Calls Tryz.prog 113 #[ptrTo p] w fun e w'=>e=.returned (.int .i64 D.size)∧Calm w w':=by
 obtain⟨c0,c1,c2,c3,c4⟩:=h.cells
 have H:=box h
 clear h
 have Hs:=box hsz
 clear hsz
 go_enter Tryz.func113,Tryz.ntmps113
 go_wp2_with (at_range;refine wpList_range_list rfl _ rfl Tryz.underlying90 rfl H.out.map ?_;intro w0 hr0 hc0 hs0)
 go_frame
 go_loopw [3] (fun n wr=>∃left:List FileS,RangeIs wr mb w.heap.size .string (D.files.map encF) (left.map encF)∧(∃k:Nat,n=.int .i64 k∧k+total left=D.size)∧Calm w wr∧∀f∈left,f∈D.files) (fun _ wr=>wr.rangeLeft mb w.heap.size)
 case atStart=>exact⟨D.files,hr0,⟨0,rfl,by simp [DiskS.size]⟩,hc0,fun _ h=>h⟩
 case round =>
  obtain⟨left,hr,⟨k,rfl,hk⟩,hcalm,hin⟩:=hrel
  have Hk:=box hk
  have hk2:k≤4294967295:=by have:=Hs.out;omega
  have Hr:=box hr
  have Hin:=box hin
  clear hr hk hin
  go_wp2_with (at_next;refine wpList_next_list rfl _ rfl rfl Hr.out ?_ ?_)
  case refine_1 =>
   intro hnil
   have hnil:=box (show left=[] by simpa using hnil)
   go_wp2
   go_ret
   refine⟨ret_int ?_,by exact cm⟩
   have:=Hk.out
   rw[hnil.out]at this
   simp [total]at this
   omega
  case refine_2 =>
   intro l1 x1 x2 l2 w1 hl hr1 hen hk1 hs1 f hf hfe
   simp only[encF,Prod.mk.injEq]at hfe
   obtain⟨rfl,rfl⟩:=hfe
   obtain⟨L1,L2,hL,rfl,rfl⟩:∃L1 L2,left=L1++f :: L2∧L1.map encF=l1∧L2.map encF=l2:=by
    obtain⟨L1,L',hL,h1,h2⟩:=List.map_eq_append_iff.1 hl
    obtain⟨g,L2,hL',h3,h4⟩:=List.map_eq_cons_iff.1 h2
    have hg:g=f:=by
     refine nodup_inj H.out.blks (Hin.out g (by rw[hL,hL'];simp)) hf ?_
     have:(encF g).2=ptrTo f.blk:=by rw[h3]
     simpa [encF] using this
    subst hg
    exact⟨L1,L2,by rw[hL,hL'],h1,h4⟩
   have hcalm1:Calm w w1:=⟨hk1.os.trans hcalm.os,hk1.tape.trans hcalm.tape,hk1.output.trans hcalm.output,Nat.le_trans hcalm.size hk1.size,fun b hb=>(hk1.block b (Nat.lt_of_lt_of_le hb hcalm.size) (by omega)).trans (hcalm.block b hb)⟩
   have hfc:=H.out.files f hf
   have d1:w1.cell? ⟨f.blk,1,none⟩=some (.string f.now):=cell_of (heap_calm hcalm1 hfc) 1
   have hsum:=box (show (k+f.now.size)+total (L1++L2)=D.size by have:=Hk.out;rw[hL,total_split]at this;omega)
   have hbd:(f.now.size:Int)≤4294967295:=by have:=hsum.out;have:=Hs.out;omega
   have hR1:=box hr1
   have hin1:=box (show ∀g∈L1++L2,g∈D.files from fun g hg=>Hin.out g (by rw[hL];rcases List.mem_append.1 hg with h|h<;>simp [h]))
   have hlt:=box (show w1.rangeLeft mb w.heap.size<wr.rangeLeft mb w.heap.size by rw[hr1.left_eq,Hr.out.left_eq,hL];simp)
   clear hl hL hr1 hfc
   go_wp2
   go_roundw
   case rel=>exact⟨L1++L2,by rw[List.map_append];exact hR1.out,⟨k+f.now.size,by go_num,hsum.out⟩,hcalm1,hin1.out⟩
   case measure=>exact hlt.out
theorem Size_any (w:World) (h:DiskAt w p D F) (hsz:D.size≤4294967295):Calls Tryz.prog 113 #[ptrTo p] w fun e w'=>e=.returned (.int .i64 D.size)∧Calm w w':=by
 obtain⟨mb,wv,h,rfl⟩:=h
 exact Size_in w h hsz
set_option maxHeartbeats 1000000 in
theorem Room_any (w:World) (h:DiskAt w p D F) (hsz:D.size≤4294967295) (hcap:0≤D.cap∧D.cap≤16777216):Calls Tryz.prog 64 #[ptrTo p] w fun e w'=>e=.returned (.int .i64 (D.cap-D.size))∧Calm w w':=by
 obtain⟨mb,wv,h,rfl⟩:=h
 obtain⟨c0,c1,c2,c3,c4⟩:=h.cells
 obtain⟨hc1,hc2⟩:=hcap
 have H:=box h
 clear h
 have hsz':(D.size:Int)≤4294967295:=by omega
 have Hs:=box hsz
 clear hsz
 have hwr:IntKind.i64.wrap (D.cap - ↑D.size)=D.cap - ↑D.size:=IntWalk.i64_in _ (by omega)
 go_enter Tryz.func64,Tryz.ntmps64
 go_wp2
 go_region_held3 (fun w'=>w'.cell? ⟨p,4,none⟩=some (.int .i64 D.cap)) (first|go_keep|(rw[hb.cell (p:=⟨p,4,none⟩) (heap_lt H.out.obj)];assumption)) ((go_at_call 113;refine(Size_in _ (H.out.calm (by exact cm)) Hs.out).mono ?_;rintro e w' ⟨rfl,hb⟩))
 go_wp2
 go_ret
 exact⟨ret_int (by simp),by exact cm⟩
end
end Go.Proofs.YtiahjipoofeliaaGreatDoor.dk
