/- Lemmas for this claim. -/
import Derived.Laws.BitsLemmas
import Derived.Test.YtiahjipoofeliaaGreatDoorPk27
set_option maxRecDepth 100000
namespace Go.Proofs.YtiahjipoofeliaaGreatDoor.cr
open Go.RowKit
theorem xor32 (a b:Nat) (ha:a<4294967296) (hb:b<4294967296):bits .xor .u32 (a:Int) (b:Int)=((a ^^^ b:Nat):Int):=by
 have hx:a ^^^ b<4294967296:=Nat.xor_lt_two_pow (n:=32) (by omega) (by omega)
 simp only[bits,BitVec.ofInt_natCast,BitVec.toNat_xor,BitVec.toNat_ofNat]
 rw[show IntKind.u32.bits=32 from rfl,Nat.mod_eq_of_lt (by omega),Nat.mod_eq_of_lt (by omega),IntKind.wrap_u32]
 omega
theorem and32 (a b:Nat) (ha:a<4294967296) (hb:b<4294967296):bits .and .u32 (a:Int) (b:Int)=((a &&& b:Nat):Int) :=
 (bits_nat .u32 32 (by decide) (fun n h0 h1=>by rw[IntKind.wrap_u32];omega) a b (by omega) (by omega)).1
theorem or32 (a b:Nat) (ha:a<4294967296) (hb:b<4294967296):bits .or .u32 (a:Int) (b:Int)=((a ||| b:Nat):Int) :=
 (bits_nat .u32 32 (by decide) (fun n h0 h1=>by rw[IntKind.wrap_u32];omega) a b (by omega) (by omega)).2
theorem xor8 (a b:Nat) (ha:a<256) (hb:b<256):bits .xor .u8 (a:Int) (b:Int)=((a ^^^ b:Nat):Int):=by
 have hx:a ^^^ b<256:=Nat.xor_lt_two_pow (n:=8) (by omega) (by omega)
 simp only[bits,BitVec.ofInt_natCast,BitVec.toNat_xor,BitVec.toNat_ofNat]
 rw[show IntKind.u8.bits=8 from rfl,Nat.mod_eq_of_lt (by omega),Nat.mod_eq_of_lt (by omega),IntKind.wrap_u8]
 omega
theorem and255 (a:Nat) (ha:a<4294967296):bits .and .u32 (a:Int) 255=((a%256:Nat):Int):=by
 have:=and32 a 255 ha (by decide)
 rw[show ((255:Nat):Int)=255 from rfl]at this
 rw[this,show a &&& 255=a%256 from Nat.and_two_pow_sub_one_eq_mod a 8]
theorem and1 (a:Nat) (ha:a<4294967296):bits .and .u32 (a:Int) 1=((a%2:Nat):Int):=by
 have:=and32 a 1 ha (by decide)
 rw[show ((1:Nat):Int)=1 from rfl]at this
 rw[this,show a &&& 1=a%2 from Nat.and_two_pow_sub_one_eq_mod a 1]
end Go.Proofs.YtiahjipoofeliaaGreatDoor.cr

namespace Go.Proofs.YtiahjipoofeliaaGreatDoor.cr
open Go.ChangeShapes Go.WideShapes Go.ChangeAt Go.RowKit
theorem first_any (b:Nat) (w:World) (hb:b<256):Calls Tryz.prog 98 #[.int .u32 b] w fun e w'=>e=.returned (.int .u32 (steps 8 b:Nat))∧w=w':=by
 go_enter Tryz.func98,Tryz.ntmps98
 go_wp2_with fail
 go_loopw [0,4] (fun x i wr=>wr=w∧∃k y:Nat,k≤8∧i=.int .i64 k∧x=.int .u32 y∧y<4294967296∧steps (8-k) y=steps 8 b) (fun _ i _=>8-(intOf i).toNat)
 case atStart=>exact⟨by first|rfl|trivial,0,b,by omega,rfl,rfl,by omega,rfl⟩
 case round =>
  obtain⟨rfl,k,y,hk,rfl,rfl,hy,hst⟩:=hrel
  by_cases hlt:k<8
  ·have hst2:=box (show steps (8-(k+1)) (step1 y)=steps 8 b by rw[←hst,show 8-k=(8-(k+1))+1 by omega];rfl)
   have hs1:=box (step1_lt hy)
   have ha:=and1 y hy
   by_cases hodd:y%2=1
   ·rw[hodd]at ha
    have hx:bits .xor .u32 ((y:Int) / 2) 3988292384=((step1 y:Nat):Int):=by
     have:=xor32 (y / 2) 3988292384 (by omega) (by decide)
     unfold step1
     rw[if_pos hodd,←show ((3988292384:Nat):Int)=3988292384 from rfl,←show ((y / 2:Nat):Int)=(y:Int) / 2 by omega,this]
     rfl
    go_wp2_with fail
    go_roundw
    case rel=>exact⟨by first|rfl|trivial,k+1,step1 y,by omega,by go_num,rfl,hs1.out,hst2.out⟩
    case measure=>simp [intOf];omega
   ·have h0:y%2=0:=by omega
    rw[h0]at ha
    have hx:(y:Int) / 2=((step1 y:Nat):Int):=by unfold step1;rw[if_neg hodd,Nat.xor_zero];omega
    go_wp2_with fail
    go_roundw
    case rel=>exact⟨by first|rfl|trivial,k+1,step1 y,by omega,by go_num,rfl,hs1.out,hst2.out⟩
    case measure=>simp [intOf];omega
  ·obtain rfl:k=8:=by omega
   go_wp2_with fail
   go_ret
   exact⟨ret_int (by rw[←hst];rfl),rfl⟩
abbrev tabI (n i:Nat):Nat:=if i<n then steps (8 * (i / 256+1)) (i%256) else 0
def tabC (n:Nat):Array Value:=((List.range 1024).map fun i=>Value.int .u32 ((tabI n i:Nat):Int)).toArray
def TabAt (w:World) (b n:Nat):Prop:=w.heap[b]? = some (.cells (tabC n) 169 (0,0))
theorem tabC_get (n i:Nat) (hi:i<1024):(tabC n)[i]? = some (.int .u32 ((tabI n i:Nat):Int)):=by
 unfold tabC;simp [hi]
theorem tabC_set (n:Nat) (h:n<1024):(tabC n).setIfInBounds n (.int .u32 ((steps (8 * (n / 256+1)) (n%256):Nat):Int))=tabC (n+1):=by
 apply Array.ext_getElem?
 intro i
 rw[Array.getElem?_setIfInBounds]
 by_cases hi:i<1024
 ·by_cases e:n=i
  ·subst e
   rw[if_pos rfl,if_pos (by unfold tabC;simp;omega),tabC_get _ _ hi]
   unfold tabI
   rw[if_pos (by omega)]
  ·rw[if_neg e,tabC_get _ _ hi,tabC_get _ _ hi]
   unfold tabI
   by_cases h1:i<n
   ·rw[if_pos h1,if_pos (by omega)]
   ·rw[if_neg h1,if_neg (by omega)]
 ·have h1:(tabC n)[i]? = none:=by unfold tabC;simp;omega
  have h2:(tabC (n+1))[i]? = none:=by unfold tabC;simp;omega
  rw[if_neg (by omega),h1,h2]
theorem zero_tab:Tryz.zeroCells169=tabC 0:=by kernel_rfl
theorem tab_cell {w:World} {b n:Nat} (h:TabAt w b n) (i:Nat) (hi:i<1024):w.cell? ⟨b,i,none⟩=some (.int .u32 ((tabI n i:Nat):Int)):=by rw[cell_of h,tabC_get n i hi]
theorem tab_store {w:World} {b n:Nat} (h:TabAt w b n) (hn:n<1024):TabAt (w.setCell ⟨b,n,none⟩ (.int .u32 ((steps (8 * (n / 256+1)) (n%256):Nat):Int))) b (n+1):=by
 have:=heap_set h n (.int .u32 ((steps (8 * (n / 256+1)) (n%256):Nat):Int))
 rw[tabC_set n hn]at this
 exact this
theorem calm_tab {a w:World} (h:Calm a w) {b k:Nat} (hp:a.heap.size≤b) (u:Value):Calm a (w.setCell ⟨b,k,none⟩ u) :=
 ((Keeps.of_calm (F:=fun b=>a.heap.size≤b) h).setCell (p:=⟨b,k,none⟩) (.inr hp) u).below (Nat.le_refl _) (fun _ h=>h)
set_option maxHeartbeats 4000000 in
theorem New_any (w:World):Calls Tryz.prog 55 #[] w fun e w'=>∃b,e=.returned (.pointer (some ⟨b,0,none⟩))∧TabAt w' b 1024∧w.heap.size≤b∧Calm w w':=by
 have T0:=box (show TabAt (w.alloc (.cells Tryz.zeroCells169 169)) w.heap.size 0 by unfold TabAt;rw[←zero_tab];exact heap_new w _)
 have C0:=box ((Calm.refl w).alloc (.cells Tryz.zeroCells169 169))
 go_enter Tryz.func55,Tryz.ntmps55
 go_wp2_with fail
 go_loopw [8] (fun i wr=>∃k:Nat,k≤256∧i=.int .i64 k∧TabAt wr w.heap.size k∧Calm w wr) (fun i _=>256-(intOf i).toNat)
 case atStart=>exact⟨0,Nat.zero_le _,rfl,T0.out,C0.out⟩
 case round =>
  clear T0 C0
  obtain⟨k,hk,rfl,ht,hc⟩:=hrel
  have HT:=box ht
  have HC:=box hc
  clear ht hc
  by_cases hlt:k<256
  ·have hst:=box (by have:=tab_store HT.out (show k<1024 by omega);rwa[show k / 256=0 by omega,show k%256=k by omega]at this)
   have hcal:=box ((calm_tab HC.out (b:=w.heap.size) (k:=k) (Nat.le_refl _) (.int .u32 ((steps 8 k:Nat):Int))).drew)
   have c0:=tab_cell HT.out k (by omega)
   have f0:=free_of HT.out k
   have hb:=heap_lt HT.out
   have hw:IntKind.u32.wrap (k:Int)=k:=by rw[IntKind.wrap_u32];omega
   go_wp2_with fail
   go_region_held3 (fun w'=>w'.frozen? ⟨w.heap.size,k,none⟩=false) (go_keep) ((go_at_call 98;refine(first_any k _ hlt).mono ?_;rintro e w' ⟨rfl,rfl⟩))
   go_wp2_with fail
   go_roundw
   case rel=>exact⟨k+1,by omega,by go_num,hst.out,hcal.out⟩
   case measure=>simp [intOf];omega
  ·obtain rfl:k=256:=by omega
   rw[show ((256:Nat):Int)=256 from rfl]
   go_wp2_with fail
   go_loopw [3] (fun i wr=>∃k:Nat,1≤k∧k≤4∧i=.int .i64 k∧TabAt wr w.heap.size (256 * k)∧Calm w wr) (fun i _=>4-(intOf i).toNat)
   case atStart=>exact⟨1,by omega,by omega,rfl,HT.out,HC.out⟩
   case round =>
    clear HT HC
    obtain⟨k,hk1,hk4,rfl,ht,hc⟩:=hrel
    have HT:=box ht
    have HC:=box hc
    clear ht hc
    obtain⟨wo,hwo⟩:∃wo:World,wo=wr:=⟨_,rfl⟩
    subst hwo
    by_cases hlt:k<4
    ·have h123:k=1∨k=2∨k=3:=by omega
     rcases h123 with rfl|rfl|rfl
     ·rw[show ((1:Nat):Int)=1 from rfl]
      go_wp2_with fail
      go_loopw [25] (fun i wr=>∃j:Nat,j≤256∧i=.int .i64 j∧TabAt wr w.heap.size (256 * 1+j)∧Calm w wr) (fun i _=>256-(intOf i).toNat)
      case atStart=>exact⟨0,by omega,rfl,HT.out,HC.out⟩
      case round =>
       clear HT HC
       obtain⟨j,hj,rfl,ht,hc⟩:=hrel
       have HT:=box ht
       have HC:=box hc
       clear ht hc
       by_cases hjlt:j<256
       ·have HT:=box (show TabAt wr w.heap.size (256+j) from HT.out)
        have hst:=box (by have:=tab_store HT.out (show 256+j<1024 by omega);rwa[show (256+j) / 256=1 by omega,show (256+j)%256=j by omega,tab_next 0 j]at this)
        obtain⟨y,hy⟩:∃y,steps (8 * (0+1)) j=y:=⟨_,rfl⟩
        have hyl:y<4294967296:=by rw[←hy];exact steps_lt _ (by omega)
        have c1:=tab_cell HT.out (j) (by omega)
        rw[show tabI (256+j) (j)=y by unfold tabI;rw[if_pos (by omega),show (j) / 256=0 by omega,show (j)%256=j by omega,hy]]at c1
        have c2:=tab_cell HT.out (y%256) (by omega)
        rw[show tabI (256+j) (y%256)=steps 8 (y%256) by unfold tabI;rw[if_pos (by omega),show (y%256) / 256=0 by omega,show (y%256)%256=y%256 by omega]]at c2
        obtain⟨z,hz⟩:∃z,steps 8 (y%256)=z:=⟨_,rfl⟩
        have hzl:z<4294967296:=by rw[←hz];exact steps_lt 8 (by omega)
        rw[hy,hz]at hst
        rw[hz]at c2
        have ha:=and255 y hyl
        obtain⟨u,hu⟩:∃u,y%256=u:=⟨_,rfl⟩
        have hul:u<256:=by omega
        have hul2:(u:Int)<256:=by omega
        rw[hu]at ha c2 hz
        have hx:bits .xor .u32 (z:Int) ((y:Int) / 256)=((z ^^^ y / 256:Nat):Int):=by
         rw[←show ((y / 256:Nat):Int)=(y:Int) / 256 by omega];exact xor32 z (y / 256) hzl (by omega)
        have c3:=tab_cell HT.out (256+j) (by omega)
        have f3:=free_of HT.out (256+j)
        have hb:=heap_lt HT.out
        have hcal:=box ((calm_tab HC.out (b:=w.heap.size) (k:=256+j) (Nat.le_refl _) (.int .u32 ((z ^^^ y / 256:Nat):Int))).drew)
        have hS:=box (show (wr.setCell ⟨w.heap.size,256+j,none⟩ (.int .u32 ((z ^^^ y / 256:Nat):Int))).cell? ⟨w.heap.size,u,none⟩=some (.int .u32 z) from by
         have:=tab_cell hst.out u (by omega)
         rw[show tabI (256+j+1) u=z by unfold tabI;rw[if_pos (by omega),show u / 256=0 by omega,show u%256=u by omega];exact hz]at this
         exact this)
        clear hy hz hu
        go_wp2_with fail
        go_region_held3 (fun w'=>w'.cell? ⟨w.heap.size,u,none⟩=some (.int .u32 (z:Nat))) (first|exact hS.out|go_keep) (fail)
        go_wp2_with fail
        go_roundw
        case rel=>exact⟨j+1,by omega,by go_num,by rw[show 256 * 1+(j+1)=256+j+1 by omega];exact hst.out,hcal.out⟩
        case measure=>simp [intOf];omega
       ·obtain rfl:j=256:=by omega
        go_wp2_with fail
        go_roundw
        case rel=>exact⟨2,by omega,by omega,by go_num,HT.out,HC.out⟩
        case measure=>simp [intOf]
     ·rw[show ((2:Nat):Int)=2 from rfl]
      go_wp2_with fail
      go_loopw [25] (fun i wr=>∃j:Nat,j≤256∧i=.int .i64 j∧TabAt wr w.heap.size (256 * 2+j)∧Calm w wr) (fun i _=>256-(intOf i).toNat)
      case atStart=>exact⟨0,by omega,rfl,HT.out,HC.out⟩
      case round =>
       clear HT HC
       obtain⟨j,hj,rfl,ht,hc⟩:=hrel
       have HT:=box ht
       have HC:=box hc
       clear ht hc
       by_cases hjlt:j<256
       ·have HT:=box (show TabAt wr w.heap.size (512+j) from HT.out)
        have hst:=box (by have:=tab_store HT.out (show 512+j<1024 by omega);rwa[show (512+j) / 256=2 by omega,show (512+j)%256=j by omega,tab_next 1 j]at this)
        obtain⟨y,hy⟩:∃y,steps (8 * (1+1)) j=y:=⟨_,rfl⟩
        have hyl:y<4294967296:=by rw[←hy];exact steps_lt _ (by omega)
        have c1:=tab_cell HT.out (256+j) (by omega)
        rw[show tabI (512+j) (256+j)=y by unfold tabI;rw[if_pos (by omega),show (256+j) / 256=1 by omega,show (256+j)%256=j by omega,hy]]at c1
        have c2:=tab_cell HT.out (y%256) (by omega)
        rw[show tabI (512+j) (y%256)=steps 8 (y%256) by unfold tabI;rw[if_pos (by omega),show (y%256) / 256=0 by omega,show (y%256)%256=y%256 by omega]]at c2
        obtain⟨z,hz⟩:∃z,steps 8 (y%256)=z:=⟨_,rfl⟩
        have hzl:z<4294967296:=by rw[←hz];exact steps_lt 8 (by omega)
        rw[hy,hz]at hst
        rw[hz]at c2
        have ha:=and255 y hyl
        obtain⟨u,hu⟩:∃u,y%256=u:=⟨_,rfl⟩
        have hul:u<256:=by omega
        have hul2:(u:Int)<256:=by omega
        rw[hu]at ha c2 hz
        have hx:bits .xor .u32 (z:Int) ((y:Int) / 256)=((z ^^^ y / 256:Nat):Int):=by
         rw[←show ((y / 256:Nat):Int)=(y:Int) / 256 by omega];exact xor32 z (y / 256) hzl (by omega)
        have c3:=tab_cell HT.out (512+j) (by omega)
        have f3:=free_of HT.out (512+j)
        have hb:=heap_lt HT.out
        have hcal:=box ((calm_tab HC.out (b:=w.heap.size) (k:=512+j) (Nat.le_refl _) (.int .u32 ((z ^^^ y / 256:Nat):Int))).drew)
        have hS:=box (show (wr.setCell ⟨w.heap.size,512+j,none⟩ (.int .u32 ((z ^^^ y / 256:Nat):Int))).cell? ⟨w.heap.size,u,none⟩=some (.int .u32 z) from by
         have:=tab_cell hst.out u (by omega)
         rw[show tabI (512+j+1) u=z by unfold tabI;rw[if_pos (by omega),show u / 256=0 by omega,show u%256=u by omega];exact hz]at this
         exact this)
        clear hy hz hu
        go_wp2_with fail
        go_region_held3 (fun w'=>w'.cell? ⟨w.heap.size,u,none⟩=some (.int .u32 (z:Nat))) (first|exact hS.out|go_keep) (fail)
        go_wp2_with fail
        go_roundw
        case rel=>exact⟨j+1,by omega,by go_num,by rw[show 256 * 2+(j+1)=512+j+1 by omega];exact hst.out,hcal.out⟩
        case measure=>simp [intOf];omega
       ·obtain rfl:j=256:=by omega
        go_wp2_with fail
        go_roundw
        case rel=>exact⟨3,by omega,by omega,by go_num,HT.out,HC.out⟩
        case measure=>simp [intOf]
     ·rw[show ((3:Nat):Int)=3 from rfl]
      go_wp2_with fail
      go_loopw [25] (fun i wr=>∃j:Nat,j≤256∧i=.int .i64 j∧TabAt wr w.heap.size (256 * 3+j)∧Calm w wr) (fun i _=>256-(intOf i).toNat)
      case atStart=>exact⟨0,by omega,rfl,HT.out,HC.out⟩
      case round =>
       clear HT HC
       obtain⟨j,hj,rfl,ht,hc⟩:=hrel
       have HT:=box ht
       have HC:=box hc
       clear ht hc
       by_cases hjlt:j<256
       ·have HT:=box (show TabAt wr w.heap.size (768+j) from HT.out)
        have hst:=box (by have:=tab_store HT.out (show 768+j<1024 by omega);rwa[show (768+j) / 256=3 by omega,show (768+j)%256=j by omega,tab_next 2 j]at this)
        obtain⟨y,hy⟩:∃y,steps (8 * (2+1)) j=y:=⟨_,rfl⟩
        have hyl:y<4294967296:=by rw[←hy];exact steps_lt _ (by omega)
        have c1:=tab_cell HT.out (512+j) (by omega)
        rw[show tabI (768+j) (512+j)=y by unfold tabI;rw[if_pos (by omega),show (512+j) / 256=2 by omega,show (512+j)%256=j by omega,hy]]at c1
        have c2:=tab_cell HT.out (y%256) (by omega)
        rw[show tabI (768+j) (y%256)=steps 8 (y%256) by unfold tabI;rw[if_pos (by omega),show (y%256) / 256=0 by omega,show (y%256)%256=y%256 by omega]]at c2
        obtain⟨z,hz⟩:∃z,steps 8 (y%256)=z:=⟨_,rfl⟩
        have hzl:z<4294967296:=by rw[←hz];exact steps_lt 8 (by omega)
        rw[hy,hz]at hst
        rw[hz]at c2
        have ha:=and255 y hyl
        obtain⟨u,hu⟩:∃u,y%256=u:=⟨_,rfl⟩
        have hul:u<256:=by omega
        have hul2:(u:Int)<256:=by omega
        rw[hu]at ha c2 hz
        have hx:bits .xor .u32 (z:Int) ((y:Int) / 256)=((z ^^^ y / 256:Nat):Int):=by
         rw[←show ((y / 256:Nat):Int)=(y:Int) / 256 by omega];exact xor32 z (y / 256) hzl (by omega)
        have c3:=tab_cell HT.out (768+j) (by omega)
        have f3:=free_of HT.out (768+j)
        have hb:=heap_lt HT.out
        have hcal:=box ((calm_tab HC.out (b:=w.heap.size) (k:=768+j) (Nat.le_refl _) (.int .u32 ((z ^^^ y / 256:Nat):Int))).drew)
        have hS:=box (show (wr.setCell ⟨w.heap.size,768+j,none⟩ (.int .u32 ((z ^^^ y / 256:Nat):Int))).cell? ⟨w.heap.size,u,none⟩=some (.int .u32 z) from by
         have:=tab_cell hst.out u (by omega)
         rw[show tabI (768+j+1) u=z by unfold tabI;rw[if_pos (by omega),show u / 256=0 by omega,show u%256=u by omega];exact hz]at this
         exact this)
        clear hy hz hu
        go_wp2_with fail
        go_region_held3 (fun w'=>w'.cell? ⟨w.heap.size,u,none⟩=some (.int .u32 (z:Nat))) (first|exact hS.out|go_keep) (fail)
        go_wp2_with fail
        go_roundw
        case rel=>exact⟨j+1,by omega,by go_num,by rw[show 256 * 3+(j+1)=768+j+1 by omega];exact hst.out,hcal.out⟩
        case measure=>simp [intOf];omega
       ·obtain rfl:j=256:=by omega
        go_wp2_with fail
        go_roundw
        case rel=>exact⟨4,by omega,by omega,by go_num,HT.out,HC.out⟩
        case measure=>simp [intOf]
    ·obtain rfl:k=4:=by omega
     go_wp2_with fail
     go_ret
     exact⟨w.heap.size,rfl,HT.out,Nat.le_refl _,HC.out⟩
set_option maxHeartbeats 4000000 in
theorem one_any (b x:Nat) (c:UInt8) (w:World) (h:TabAt w b 1024) (hx:x<4294967296) :
  Calls Tryz.prog 198 #[.pointer (some ⟨b,0,none⟩),.int .u32 x,.int .u8 c.toNat] w fun e w'=>e=.returned (.int .u32 (crcB x c:Nat))∧w=w':=by
 have hcb:=c.toNat_lt
 obtain⟨u,hu⟩:∃u,(x%256) ^^^ c.toNat=u:=⟨_,rfl⟩
 have hul:u<256:=by rw[←hu];exact Nat.xor_lt_two_pow (n:=8) (by omega) (by omega)
 have c0:=tab_cell h u (by omega)
 rw[show tabI 1024 u=steps 8 u by unfold tabI;rw[if_pos (by omega),show u / 256=0 by omega,show u%256=u by omega]]at c0
 have hb:=heap_lt h
 have hz:steps 8 u<4294967296:=steps_lt 8 (by omega)
 have hr:crcB x c=steps 8 u ^^^ x / 256:=by rw[crcB_tab,hu]
 rw[hr]
 obtain⟨z,hzz⟩:∃z,steps 8 u=z:=⟨_,rfl⟩
 rw[hzz]at c0 hz ⊢
 have hw:IntKind.u8.wrap (x:Int)=((x%256:Nat):Int):=by rw[IntKind.wrap_u8];omega
 have ha:bits .xor .u8 ((x%256:Nat):Int) (c.toNat:Int)=(u:Int):=by rw[xor8 _ _ (by omega) hcb,hu]
 have ha':bits .xor .u8 ((x:Int)%256) (c.toNat:Int)=(u:Int):=by rw[←ha];congr 1
 have hx2:bits .xor .u32 (z:Int) ((x:Int) / 256)=((z ^^^ x / 256:Nat):Int):=by
  rw[←show ((x / 256:Nat):Int)=(x:Int) / 256 by omega];exact xor32 z (x / 256) hz (by omega)
 have hul2:(u:Int)<256:=by omega
 clear h hu hr hzz
 go_enter Tryz.func198,Tryz.ntmps198
 go_wp2_with fail
 go_ret
 exact⟨rfl,rfl⟩
end Go.Proofs.YtiahjipoofeliaaGreatDoor.cr

namespace Go.Proofs.YtiahjipoofeliaaGreatDoor.cr
open Go.ChangeShapes Go.WideShapes Go.ChangeAt Go.RowKit
open oc rc
theorem xor_join (n a b:Nat) (h:a<2 ^ n):a ^^^ (2 ^ n * b)=2 ^ n * b+a:=by
 have:=xor_split n (2 ^ n * b+a)
 rwa[Nat.mul_add_mod,Nat.mod_eq_of_lt h,Nat.mul_add_div (Nat.two_pow_pos n),Nat.div_eq_of_lt h,Nat.add_zero]at this
theorem or_xor (n a b:Nat) (h:a<2 ^ n):a ||| (2 ^ n * b)=a ^^^ (2 ^ n * b):=by
 rw[xor_join n a b h,Nat.or_comm,←Nat.two_pow_add_eq_or_of_lt h]
set_option maxHeartbeats 8000000 in
theorem four_any (b x:Nat) (s:ByteArray) (w:World) (h:TabAt w b 1024) (hx:x<4294967296) (hs:4≤s.size) :
  Calls Tryz.prog 197 #[.pointer (some ⟨b,0,none⟩),.int .u32 x,.string s] w fun e w'=>e=.returned (.int .u32 (crcB (crcB (crcB (crcB x s[0]) s[1]) s[2]) s[3]:Nat))∧Calm w w':=by
 have hs0:(0:Int)<s.size:=by omega
 have hs1:(1:Int)<s.size:=by omega
 have hs2:(2:Int)<s.size:=by omega
 have hs3:(3:Int)<s.size:=by omega
 have g0:0<s.size:=by omega
 have g1:1<s.size:=by omega
 have g2:2<s.size:=by omega
 have g3:3<s.size:=by omega
 have l0:=s[0].toNat_lt
 have l1:=s[1].toNat_lt
 have l2:=s[2].toNat_lt
 have l3:=s[3].toNat_lt
 obtain⟨p1,hp1⟩:∃p,p=256 * s[1].toNat:=⟨_,rfl⟩
 obtain⟨p2,hp2⟩:∃p,p=65536 * s[2].toNat:=⟨_,rfl⟩
 obtain⟨p3,hp3⟩:∃p,p=16777216 * s[3].toNat:=⟨_,rfl⟩
 obtain⟨q1,hq1⟩:∃q,q=s[0].toNat ^^^ p1:=⟨_,rfl⟩
 obtain⟨q2,hq2⟩:∃q,q=q1 ^^^ p2:=⟨_,rfl⟩
 obtain⟨q3,hq3⟩:∃q,q=q2 ^^^ p3:=⟨_,rfl⟩
 obtain⟨y,hy⟩:∃y,y=x ^^^ q3:=⟨_,rfl⟩
 have lq1:q1<65536:=by rw[hq1];exact Nat.xor_lt_two_pow (n:=16) (by omega) (by omega)
 have lq2:q2<16777216:=by rw[hq2];exact Nat.xor_lt_two_pow (n:=24) (by omega) (by omega)
 have lq3:q3<4294967296:=by rw[hq3];exact Nat.xor_lt_two_pow (n:=32) (by omega) (by omega)
 have ly:y<4294967296:=by rw[hy];exact Nat.xor_lt_two_pow (n:=32) (by omega) (by omega)
 have e0:IntKind.u32.wrap (s[0].toNat:Int)=s[0].toNat:=by rw[IntKind.wrap_u32];omega
 have e1:IntKind.u32.wrap (IntKind.u32.wrap (s[1].toNat:Int) * 256)=p1:=by rw[IntKind.wrap_u32,IntKind.wrap_u32];omega
 have e2:IntKind.u32.wrap (IntKind.u32.wrap (s[2].toNat:Int) * 65536)=p2:=by rw[IntKind.wrap_u32,IntKind.wrap_u32];omega
 have e3:IntKind.u32.wrap (IntKind.u32.wrap (s[3].toNat:Int) * 16777216)=p3:=by rw[IntKind.wrap_u32,IntKind.wrap_u32];omega
 have o1:bits .or .u32 (s[0].toNat:Int) (p1:Int)=q1:=by rw[or32 _ _ (by omega) (by omega),hq1,hp1];congr 1;exact or_xor 8 _ _ l0
 have o2:bits .or .u32 (q1:Int) (p2:Int)=q2:=by rw[or32 _ _ (by omega) (by omega),hq2,hp2];congr 1;exact or_xor 16 _ _ lq1
 have o3:bits .or .u32 (q2:Int) (p3:Int)=q3:=by rw[or32 _ _ (by omega) (by omega),hq3,hp3];congr 1;exact or_xor 24 _ _ lq2
 have o4:bits .xor .u32 (x:Int) (q3:Int)=y:=by rw[xor32 _ _ hx lq3,hy]
 have hres:crcB (crcB (crcB (crcB x s[0]) s[1]) s[2]) s[3]=steps 32 y:=by
  unfold crcB
  rw[four_steps,hy,hq3,hq2,hq1,hp1,hp2,hp3]
 rw[hres,steps32 y ly]
 obtain⟨u0,hu0⟩:∃u,u=y%256:=⟨_,rfl⟩
 obtain⟨u1,hu1⟩:∃u,u=y / 256%256:=⟨_,rfl⟩
 obtain⟨u2,hu2⟩:∃u,u=y / 65536%256:=⟨_,rfl⟩
 obtain⟨u3,hu3⟩:∃u,u=y / 16777216:=⟨_,rfl⟩
 have m0:(u0:Int)<256:=by omega
 have m1:(u1:Int)<256:=by omega
 have m2:(u2:Int)<256:=by omega
 have m3:(u3:Int)<256:=by omega
 have t3:=tab_cell h (768+u0) (by omega)
 have t2:=tab_cell h (512+u1) (by omega)
 have t1:=tab_cell h (256+u2) (by omega)
 have t0:=tab_cell h u3 (by omega)
 rw[show tabI 1024 (768+u0)=steps 32 u0 by unfold tabI;rw[if_pos (by omega),show (768+u0) / 256=3 by omega,show (768+u0)%256=u0 by omega]]at t3
 rw[show tabI 1024 (512+u1)=steps 24 u1 by unfold tabI;rw[if_pos (by omega),show (512+u1) / 256=2 by omega,show (512+u1)%256=u1 by omega]]at t2
 rw[show tabI 1024 (256+u2)=steps 16 u2 by unfold tabI;rw[if_pos (by omega),show (256+u2) / 256=1 by omega,show (256+u2)%256=u2 by omega]]at t1
 rw[show tabI 1024 u3=steps 8 u3 by unfold tabI;rw[if_pos (by omega),show u3 / 256=0 by omega,show u3%256=u3 by omega]]at t0
 have z3:steps 32 u0<4294967296:=steps_lt _ (by omega)
 have z2:steps 24 u1<4294967296:=steps_lt _ (by omega)
 have z1:steps 16 u2<4294967296:=steps_lt _ (by omega)
 have z0:steps 8 u3<4294967296:=steps_lt _ (by omega)
 rw[←hu0,←hu1,←hu2,←hu3]
 obtain⟨a3,ha3⟩:∃a,steps 32 u0=a:=⟨_,rfl⟩
 obtain⟨a2,ha2⟩:∃a,steps 24 u1=a:=⟨_,rfl⟩
 obtain⟨a1,ha1⟩:∃a,steps 16 u2=a:=⟨_,rfl⟩
 obtain⟨a0,ha0⟩:∃a,steps 8 u3=a:=⟨_,rfl⟩
 rw[ha3]at t3 z3
 rw[ha2]at t2 z2
 rw[ha1]at t1 z1
 rw[ha0]at t0 z0
 rw[ha3,ha2,ha1,ha0]
 obtain⟨r1,hr1⟩:∃r,r=a3 ^^^ a2:=⟨_,rfl⟩
 obtain⟨r2,hr2⟩:∃r,r=r1 ^^^ a1:=⟨_,rfl⟩
 obtain⟨r3,hr3⟩:∃r,r=r2 ^^^ a0:=⟨_,rfl⟩
 have lr1:r1<4294967296:=by rw[hr1];exact Nat.xor_lt_two_pow (n:=32) (by omega) (by omega)
 have lr2:r2<4294967296:=by rw[hr2];exact Nat.xor_lt_two_pow (n:=32) (by omega) (by omega)
 have x1:bits .xor .u32 (a3:Int) (a2:Int)=r1:=by rw[xor32 _ _ z3 z2,hr1]
 have x2:bits .xor .u32 (r1:Int) (a1:Int)=r2:=by rw[xor32 _ _ lr1 z1,hr2]
 have x3:bits .xor .u32 (r2:Int) (a0:Int)=r3:=by rw[xor32 _ _ lr2 z0,hr3]
 have n0:bits .and .u32 (y:Int) 255=u0:=by rw[and255 y ly,hu0]
 have n1:bits .and .u32 ((y:Int) / 256) 255=u1:=by rw[←show ((y / 256:Nat):Int)=(y:Int) / 256 by omega,and255 _ (by omega),hu1]
 have n2:bits .and .u32 ((y:Int) / 65536) 255=u2:=by rw[←show ((y / 65536:Nat):Int)=(y:Int) / 65536 by omega,and255 _ (by omega),hu2]
 have n3:(y:Int) / 16777216=u3:=by omega
 rw[←hr1,←hr2,←hr3]
 have hb:=heap_lt h
 clear h hp1 hp2 hp3 hq1 hq2 hq3 hy hres hu0 hu1 hu2 hu3 ha0 ha1 ha2 ha3 hr1 hr2 hr3 l0 l1 l2 l3 lq1 lq2 lq3 z0 z1 z2 z3 lr1 lr2 hx ly
 go_enter Tryz.func197,Tryz.ntmps197
 go_wp2_with fail
 refine wp_region_held_drew (S:=fun _=>True) (by kernel_rfl) trivial (fun hHeld=>?_)
 (refine tk 0 ?_;refine tk 1 ?_;refine tk 2 ?_;refine tk 3 ?_;refine tk 4 ?_;refine tk 5 ?_;refine tk 6 ?_;refine tk 7 ?_;refine tk 8 ?_;refine tk 9 ?_;refine tk 10 ?_;refine tk 11 ?_;refine tk 12 ?_;refine tk 13 ?_;refine tk 14 ?_;refine tk 15 ?_;refine tk 16 ?_;refine tk 17 ?_;refine tk 18 ?_;refine tk 19 ?_;refine tk 20 ?_)
 refine wpAnyH_done (by kernel_rfl) ?_ _
 go_wp2_with fail
 refine wp_region_held_drew (S:=fun w'=>w'.cell? ⟨b,768+u0,none⟩=some (.int .u32 (a3:Nat))∧w'.cell? ⟨b,512+u1,none⟩=some (.int .u32 (a2:Nat))∧w'.cell? ⟨b,256+u2,none⟩=some (.int .u32 (a1:Nat))∧w'.cell? ⟨b,u3,none⟩=some (.int .u32 (a0:Nat))) (by kernel_rfl) ⟨t3,t2,t1,t0⟩ (fun hHeld2=>?_)
 (refine tk 0 ?_;refine tk 1 ?_;refine tk 2 ?_;refine tk 3 ?_;refine tk 4 ?_;refine tk 5 ?_;refine tk 6 ?_;refine tk 7 ?_;refine tk 8 ?_;refine tk 9 ?_;refine tk 10 ?_;refine tk 11 ?_;refine tk 12 ?_;refine tk 13 ?_;refine tk 14 ?_;refine tk 15 ?_;refine tk 16 ?_;refine tk 17 ?_;refine tk 18 ?_;refine tk 19 ?_;refine tk 20 ?_;refine tk 21 ?_;refine tk 22 ?_;refine tk 23 ?_;refine tk 24 ?_;refine tk 25 ?_;refine tk 26 ?_;refine tk 27 ?_;refine tk 28 ?_;refine tk 29 ?_;refine tk 30 ?_;refine tk 31 ?_;refine tk 32 ?_;refine tk 33 ?_)
 refine wpAnyH_done (by kernel_rfl) ?_ _
 go_wp2_with fail
 go_ret
 exact⟨rfl,(Calm.refl w).drewN 2⟩
abbrev wordA (n:Nat):Array Value:=#[.int .u8 ((n:Int) / 16777216),.int .u8 ((n:Int) / 65536%256),.int .u8 ((n:Int) / 256%256),.int .u8 ((n:Int)%256)]
set_option maxHeartbeats 4000000 in
theorem word_any (n:Nat) (w:World) (hn:n<4294967296):Calls Tryz.prog 164 #[.int .i64 n] w fun e w'=>e=.returned (.agg (wordA n))∧Calm w w':=by
 have Hn:=box (heap_new w (.cells (wordA n) 212))
 have Hc:=box ((Calm.refl w).alloc (.cells (wordA n) 212))
 go_enter Tryz.func164,Tryz.ntmps164
 go_wp2_with fail
 refine bodyPost_ret (results_cell_row rfl _ _ w.heap.size _ _ _ _ rfl Hn.out Tryz.underlying212 rfl (by kernel_rfl)) rfl ?_
 exact⟨rfl,Hc.out⟩
def strLen:Value→Nat
 | .string s=>s.size
 | _=>0
def foldS (x:Nat) (s:ByteArray):Nat:=s.data.toList.foldl crcB x
theorem four_cut (s:ByteArray) (h:4≤s.size):s.data.toList=s[0] :: s[1] :: s[2] :: s[3] :: (s.extract 4 s.size).data.toList:=by
 have e:(s.extract 4 s.size).data.toList=s.data.toList.drop 4:=by
  simp only[ByteArray.data_extract,Array.toList_extract,List.extract_eq_take_drop]
  exact List.take_of_length_le (by rw[List.length_drop,size_toList];exact Nat.le_refl _)
 rw[e]
 apply List.ext_getElem?
 intro i
 have g:∀k (hk:k<s.size),s.data.toList[k]? = some s[k]:=fun k hk=>by
  rw[List.getElem?_eq_getElem (by rw[size_toList];exact hk)];rfl
 match i with
 | 0=>rw[g 0 (by omega)];rfl
 | 1=>rw[g 1 (by omega)];rfl
 | 2=>rw[g 2 (by omega)];rfl
 | 3=>rw[g 3 (by omega)];rfl
 | i+4=>simp [List.getElem?_drop,Nat.add_comm]
theorem foldS_four (x:Nat) (s:ByteArray) (h:4≤s.size):foldS x s=foldS (crcB (crcB (crcB (crcB x s[0]) s[1]) s[2]) s[3]) (s.extract 4 s.size):=by
 unfold foldS
 rw[four_cut s h];rfl
theorem drop_one (s:ByteArray) (k:Nat) (h:k<s.size):s.data.toList.drop k=s[k] :: s.data.toList.drop (k+1):=by
 rw[List.drop_eq_getElem_cons (by rw[size_toList];exact h)];rfl
def crcL (l:List ByteArray):Nat:=4294967295 ^^^ l.foldl foldS 4294967295
theorem crcL_one (s:ByteArray):crcL [s]=crcN s.data.toList:=rfl
set_option maxHeartbeats 8000000 in
theorem Sum_any (b:Nat) (v:Value) (l:List ByteArray) (w:World) (h:TabAt w b 1024) (hv:StrsAt w v l) (hl:l.length≤1000000) (hs:∀s∈l,s.size≤140737488355328) :
  Calls Tryz.prog 165 #[.pointer (some ⟨b,0,none⟩),v] w fun e w'=>e=.returned (.int .i64 (crcL l))∧Calm w w':=by
 obtain⟨a,cap,rfl,hcells⟩:=hv.uni
 have H:=box hcells
 have Hs:=box hs
 have HT:=box (fun W (hW:Calm w W)=>(show TabAt W b 1024 from heap_calm hW h))
 obtain⟨fin,hfin⟩:∃y,l.foldl foldS 4294967295=y:=⟨_,rfl⟩
 have hr:=box (show crcL l=4294967295 ^^^ fin by unfold crcL;rw[hfin])
 have Hfin:=box hfin
 rw[hr.out]
 obtain⟨z,hz⟩:∃z,4294967295 ^^^ fin=z:=⟨_,rfl⟩
 rw[hz]
 have Hz:=box hz
 clear hz
 clear h hv hcells hs hfin hr
 go_enter Tryz.func165,Tryz.ntmps165
 go_wp2_with fail
 go_loopw [5,13] (fun x i wr=>∃k y:Nat,k≤l.length∧y<4294967296∧x=.int .u32 y∧i=.int .i64 k∧(l.drop k).foldl foldS y=fin∧Calm w wr) (fun _ i _=>l.length-(intOf i).toNat)
 case atStart=>exact⟨0,4294967295,Nat.zero_le _,by decide,rfl,rfl,Hfin.out,Calm.refl w⟩
 case round =>
  clear Hfin
  obtain⟨k,y,hk,hy,rfl,rfl,hf,hC⟩:=hrel
  have HF:=box hf
  have HC:=box hC
  clear hf hC
  by_cases hlt:k<l.length
  ·obtain⟨b2,off,rfl,hb,hcell0⟩:=H.out k hlt
   have hcell:=(HC.out.cell (p:=⟨b2,off+k,none⟩) hb).trans hcell0
   have hblt:=Nat.lt_of_lt_of_le hb HC.out.size
   rw[List.getD_eq_getElem?_getD,List.getElem?_eq_getElem hlt]at hcell
   simp only[Option.getD_some]at hcell
   have hsz:=Hs.out l[k] (List.getElem_mem hlt)
   have HF:=box (show (l.drop (k+1)).foldl foldS (foldS y l[k])=fin by rw[←HF.out,List.drop_eq_getElem_cons hlt];rfl)
   obtain⟨s,hss⟩:∃s,l[k]=s:=⟨_,rfl⟩
   rw[hss]at hcell hsz HF
   clear hss hcell0
   obtain⟨f2,hf2⟩:∃f,foldS y s=f:=⟨_,rfl⟩
   rw[hf2]at HF
   have Hf2:=box hf2
   have Hy:=box hy
   clear hf2 hy
   obtain⟨wo,hwo⟩:∃wo:World,wo=wr:=⟨_,rfl⟩
   subst hwo
   go_wp2_with fail
   go_loopw [5,7] (fun x t wr=>∃(y:Nat) (u:ByteArray),y<4294967296∧x=.int .u32 y∧t=.string u∧foldS y u=f2∧u.size≤140737488355328∧Calm w wr) (fun _ t _=>strLen t)
   case atStart=>exact⟨y,s,Hy.out,rfl,rfl,Hf2.out,hsz,HC.out⟩
   case round =>
    clear Hy Hf2 HC
    obtain⟨y,u,hy,rfl,rfl,hf2,husz,hC⟩:=hrel
    have Hf2:=box hf2
    have HC:=box hC
    clear hf2 hC
    by_cases h4:4≤u.size
    ·have hfour:=box (fun W hW=>four_any b y u W (HT.out W hW) hy h4)
     have hz4:(u.extract 4 u.size).size=u.size-4:=by simp
     have Hf2:=box ((foldS_four y u h4).symm.trans Hf2.out)
     have hlt':=crcB_lt (crcB_lt (crcB_lt (crcB_lt hy u[0]) u[1]) u[2]) u[3]
     obtain⟨y',hy'⟩:∃y',crcB (crcB (crcB (crcB y u[0]) u[1]) u[2]) u[3]=y':=⟨_,rfl⟩
     rw[hy']at hfour hlt' Hf2
     have Hlt':=box hlt'
     clear hy' hlt'
     go_wp2_with fail
     refine(hfour.out _ HC.out).mono ?_
     rintro e w2 ⟨rfl,hc2⟩
     have HC2:=box (HC.out.trans hc2)
     clear hc2
     go_wp2_with fail
     go_roundw
     case rel=>exact⟨y',u.extract 4 u.size,Hlt'.out,rfl,rfl,Hf2.out,by omega,HC2.out⟩
     case measure=>simp [strLen];omega
    ·have Hy:=box hy
     clear hy
     obtain⟨wo,hwo⟩:∃wo:World,wo=wr:=⟨_,rfl⟩
     subst hwo
     go_wp2_with fail
     go_loopw [5,30] (fun x i wr=>∃(y j:Nat),y<4294967296∧j≤u.size∧x=.int .u32 y∧i=.int .i64 j∧(u.data.toList.drop j).foldl crcB y=f2∧Calm w wr) (fun _ i _=>u.size-(intOf i).toNat)
     case atStart=>exact⟨y,0,Hy.out,Nat.zero_le _,rfl,rfl,Hf2.out,HC.out⟩
     case round =>
      clear Hy Hf2 HC
      obtain⟨y,j,hy,hj,rfl,rfl,hf2,hC⟩:=hrel
      have HC:=box hC
      clear hC
      by_cases hjlt:j<u.size
      ·have hone:=box (fun W hW=>one_any b y u[j] W (HT.out W hW) hy)
       have Hf2:=box (show (u.data.toList.drop (j+1)).foldl crcB (crcB y u[j])=f2 by rw[←hf2,drop_one u j hjlt];rfl)
       have hlt':=crcB_lt hy u[j]
       obtain⟨y',hy'⟩:∃y',crcB y u[j]=y':=⟨_,rfl⟩
       rw[hy']at hone hlt' Hf2
       have Hlt':=box hlt'
       clear hy' hlt' hf2
       have hjI:(j:Int)<u.size:=by omega
       go_wp2_with fail
       go_region_held3 (fun _=>True) (trivial) ((go_at_call 198;refine(hone.out _ (by have:=HC.out;exact cm)).mono ?_;rintro e w' ⟨rfl,rfl⟩))
       go_wp2_with fail
       go_roundw
       case rel=>exact⟨y',j+1,Hlt'.out,by omega,rfl,by go_num,Hf2.out,by have:=HC.out;exact cm⟩
       case measure=>simp [intOf];omega
      ·obtain rfl:j=u.size:=by omega
       have hfe:y=f2:=by rw[←hf2,List.drop_of_length_le (by rw[size_toList];exact Nat.le_refl _)];rfl
       subst hfe
       have Hy:=box hy
       clear hf2 hy
       go_wp2_with fail
       go_roundw
       case rel=>exact⟨k+1,y,by omega,Hy.out,rfl,by go_num,HF.out,HC.out⟩
       case measure=>simp [intOf];omega
  ·obtain rfl:k=l.length:=by omega
   have hfe:y=fin:=by rw[←HF.out,List.drop_of_length_le (Nat.le_refl _)];rfl
   subst hfe
   have hz:=Hz.out
   have hx:bits .xor .u32 IntKind.u32.max (y:Int)=((4294967295 ^^^ y:Nat):Int):=xor32 4294967295 y (by decide) hy
   have hlt':4294967295 ^^^ y<4294967296:=Nat.xor_lt_two_pow (n:=32) (by decide) hy
   rw[hz]at hx hlt'
   clear hz HF hy
   go_wp2_with fail
   have hw:wrap64 (z:Int)=z:=by unfold wrap64;omega
   rw[hw]
   go_ret
   exact⟨rfl,HC.out⟩
theorem low4 (n:Nat):low 4 n=[UInt8.ofNat (n / 16777216),UInt8.ofNat (n / 65536),UInt8.ofNat (n / 256),UInt8.ofNat n]:=by
 simp [low]
theorem word_buf {w:World} {g:Nat} {n:Nat} (hn:n<4294967296) (h:w.heap[g]? = some (.cells (wordA n) 212 (0,0))):BufIs w g 4 (low 4 n):=by
 refine⟨fun j hj=>?_,fun j hj=>?_,fun j hj=>free_of h j,by rw[low_length];exact Nat.le_refl _,heap_lt h⟩
 ·rw[low_length]at hj
  rw[cell_of h j,low4]
  match j,hj with
  | 0,_=>show some _=some (Value.int .u8 ((UInt8.ofNat (n / 16777216)).toNat:Int));rw[u8_ofNat];exact congrArg some (val_int (by omega))
  | 1,_=>show some _=some (Value.int .u8 ((UInt8.ofNat (n / 65536)).toNat:Int));rw[u8_ofNat];exact congrArg some (val_int (by omega))
  | 2,_=>show some _=some (Value.int .u8 ((UInt8.ofNat (n / 256)).toNat:Int));rw[u8_ofNat];exact congrArg some (val_int (by omega))
  | 3,_=>show some _=some (Value.int .u8 ((UInt8.ofNat n).toNat:Int));rw[u8_ofNat];exact congrArg some (val_int (by omega))
 ·rw[cell_of h j]
  match j,hj with
  | 0,_=>rfl
  | 1,_=>rfl
  | 2,_=>rfl
  | 3,_=>rfl
set_option maxHeartbeats 4000000 in
theorem Seal_any (b:Nat) (s:ByteArray) (w:World) (h:TabAt w b 1024) (hs:s.size≤1000000) :
  Calls Tryz.prog 157 #[.pointer (some ⟨b,0,none⟩),.string s] w fun e w'=>e=.returned (.string ⟨(sealL s.data.toList).toArray⟩)∧Calm w w':=by
 have hc0:=(Calm.refl w).alloc (.cells #[.string s] 9)
 have hsum:=box (Sum_any b (.slice (some ⟨w.heap.size,0,none⟩) 1 1) [s] (w.alloc (.cells #[.string s] 9)) (heap_calm hc0 h) (StrsAt.one (by rw[cell_of (heap_new w _)];rfl)) (by simp) (fun t ht=>by rw[List.mem_singleton]at ht;subst ht;omega))
 rw[crcL_one]at hsum
 have hlt:=crcN_lt s.data.toList
 have hcat:=box (show (⟨(low 4 (crcN s.data.toList)).toArray⟩:ByteArray)++s=⟨(sealL s.data.toList).toArray⟩ from ba_ext (by rw[append_toList];rfl))
 have C0:=box hc0
 obtain⟨n,hn⟩:∃n,crcN s.data.toList=n:=⟨_,rfl⟩
 rw[hn]at hsum hlt hcat
 have hword:=box (fun W=>word_any n W hlt)
 have Hlt:=box hlt
 have hsz:(⟨(low 4 n).toArray⟩:ByteArray).size=4:=low_size 4 n
 rw[←hcat.out]
 obtain⟨u,hu⟩:∃u:ByteArray,⟨(low 4 n).toArray⟩=u:=⟨_,rfl⟩
 have Hu:=box hu
 rw[hu]at hsz ⊢
 clear hn h hcat hlt hc0 hu
 go_enter Tryz.func157,Tryz.ntmps157
 go_wp2_with fail
 refine hsum.out.mono ?_
 rintro e w1 ⟨rfl,hc1⟩
 have C1:=box (C0.out.trans hc1)
 clear hc1
 go_wp2_with fail
 refine(hword.out _).mono ?_
 rintro e w2 ⟨rfl,hc2⟩
 have C2:=box (C1.out.trans hc2)
 clear hc2
 have Hn:=box (heap_new w2 (.cells (wordA n) 212))
 have hconv:=conv_string (P:=Tryz.prog) (w2.alloc (.cells (wordA n) 212)) 130 9 5 Tryz.underlying130 Tryz.underlying5 Tryz.underlying9 (word_buf Hlt.out Hn.out) 4
 rw[low_length,Hu.out]at hconv
 go_wp2_with fail
 go_ret
 exact⟨rfl,C2.out.alloc _⟩
end Go.Proofs.YtiahjipoofeliaaGreatDoor.cr

namespace Go.Proofs.YtiahjipoofeliaaGreatDoor.rc
open Go.ChangeShapes Go.WideShapes Go.ChangeAt Go.RowKit Go.Shelf
open nm vs oc cr
theorem Right_all (m:MsgS) (kv:Value) (w:World) (hk:StrsAt w kv m.keys) (hs:∀s∈m.keys,s.size≤maxLen) (hl:m.keys.length≤1000000) (hz:m.body.size≤140737488355328) :
  Calls Tryz.prog 156 #[.agg (msgA m kv)] w fun e w'=>e=.returned (.bool (decide (RightP m)))∧Calm w w':=by
 by_cases h3:m.kind=1∨m.kind=2∨m.kind=3
 ·rw[decide_eq_decide.2 (RightP.of3 h3)]
  exact Right3_any m kv w hk hs h3
 ·exact Right_other m kv w hk hl hz (by omega)
set_option maxHeartbeats 4000000 in
theorem Put_any (b:Nat) (m:MsgS) (kv:Value) (w:World) (ht:TabAt w b 1024) (hk:StrsAt w kv m.keys) (hs:∀s∈m.keys,s.size≤maxLen) (hl:m.keys.length≤1000000) (hz:m.body.size≤140737488355328) :
  Calls Tryz.prog 111 #[.pointer (some ⟨b,0,none⟩),.agg (msgA m kv)] w fun e w'=>e=.returned (.tuple #[.string (putS RightP m).1,.int .i64 (putS RightP m).2])∧Calm w w':=by
 have hright:=box (fun W (hW:Calm w W)=>Right_all m kv W (hk.calm hW) hs hl hz)
 have hseal:=box (fun W (hW:Calm w W) (s:ByteArray) (hs:s.size≤1000000)=>Seal_any b s W (heap_calm hW ht) hs)
 have hin:=box (fun W (hW:Calm w W) (F:Fits m)=>inside_any m kv W (hk.calm hW) F)
 have hput:putS RightP m=if ¬RightP m then (⟨#[]⟩,1) else if m.kind=0 then (if 3≤m.body.size∧m.body.size≤1024 then (fillB m.body.size,0) else (⟨#[]⟩,1)) else (recB m,0):=rfl
 have hfit:=box (fun (h:RightP m) (hk:m.kind≠0)=>right_fits m h hk)
 obtain⟨W1,hW1⟩:∃W1,w.alloc (.cells (msgA m kv) 63)=W1:=⟨_,rfl⟩
 have Hn:=box (show W1.heap[w.heap.size]? = some (.cells (msgA m kv) 63 (0,0)) by rw[←hW1];exact heap_new w _)
 have H0:=box (show Calm w W1 by rw[←hW1];exact(Calm.refl w).alloc _)
 obtain⟨kd,q,du,rt,rf,bn,tp,tg,bd,ks⟩:=m
 simp only at hz
 clear hk hs hl ht
 have c0:=cell_of Hn.out 0
 have c1:=cell_of Hn.out 1
 have c2:=cell_of Hn.out 2
 have c3:=cell_of Hn.out 3
 have c4:=cell_of Hn.out 4
 have c5:=cell_of Hn.out 5
 have c6:=cell_of Hn.out 6
 have c7:=cell_of Hn.out 7
 have c8:=cell_of Hn.out 8
 have c9:=cell_of Hn.out 9
 have hlt:=heap_lt Hn.out
 by_cases hR:RightP ⟨kd,q,du,rt,rf,bn,tp,tg,bd,ks⟩
 ·rw[if_neg (fun h=>h hR)]at hput
  rw[decide_eq_true hR]at hright
  have HR:=box hR
  clear hR
  by_cases hk0:kd=0
  ·rw[if_pos hk0]at hput
   subst hk0
   have hfill:=box (fun W=>Fill_any (bd.size:Int) W)
   by_cases hsz:3≤bd.size∧bd.size≤1024
   ·rw[if_pos hsz]at hput
    rw[if_pos (by omega),Int.toNat_natCast]at hfill
    rw[hput]
    obtain⟨s,hs⟩:∃s,fillB bd.size=s:=⟨_,rfl⟩
    rw[hs]at hfill ⊢
    clear hput hs hsz
    go_enter Tryz.func111,Tryz.ntmps111
    go_wp2_with fail
    clear hW1
    refine(hright.out _ H0.out).mono ?_
    rintro e w2 ⟨rfl,hc2⟩
    have J2:=box (heap_calm hc2 Hn.out)
    have C2:=box (H0.out.trans hc2)
    clear hc2 c0 c1 c2 c3 c4 c5 c6 c7 c8 c9 hlt
    have c0:=cell_of J2.out 0
    have c1:=cell_of J2.out 1
    have c2:=cell_of J2.out 2
    have c3:=cell_of J2.out 3
    have c4:=cell_of J2.out 4
    have c5:=cell_of J2.out 5
    have c6:=cell_of J2.out 6
    have c7:=cell_of J2.out 7
    have c8:=cell_of J2.out 8
    have c9:=cell_of J2.out 9
    have hlt:=heap_lt J2.out
    go_wp2_with fail
    refine(hfill.out _).mono ?_
    rintro e w3 ⟨rfl,hc3⟩
    have C3:=box (C2.out.trans hc3)
    clear hc3
    go_wp2_with fail
    go_ret2
    exact⟨rfl,C3.out⟩
   ·rw[if_neg hsz]at hput
    rw[if_neg (by omega)]at hfill
    rw[hput]
    clear hput hsz
    go_enter Tryz.func111,Tryz.ntmps111
    go_wp2_with fail
    clear hW1
    refine(hright.out _ H0.out).mono ?_
    rintro e w2 ⟨rfl,hc2⟩
    have J2:=box (heap_calm hc2 Hn.out)
    have C2:=box (H0.out.trans hc2)
    clear hc2 c0 c1 c2 c3 c4 c5 c6 c7 c8 c9 hlt
    have c0:=cell_of J2.out 0
    have c1:=cell_of J2.out 1
    have c2:=cell_of J2.out 2
    have c3:=cell_of J2.out 3
    have c4:=cell_of J2.out 4
    have c5:=cell_of J2.out 5
    have c6:=cell_of J2.out 6
    have c7:=cell_of J2.out 7
    have c8:=cell_of J2.out 8
    have c9:=cell_of J2.out 9
    have hlt:=heap_lt J2.out
    go_wp2_with fail
    refine(hfill.out _).mono ?_
    rintro e w3 ⟨rfl,hc3⟩
    have C3:=box (C2.out.trans hc3)
    clear hc3
    go_wp2_with fail
    go_ret2
    exact⟨rfl,C3.out⟩
  ·rw[if_neg hk0]at hput
   have F:=hfit.out HR.out hk0
   have hil:=inside_length F
   have hsl:=seal_length (insideL ⟨kd,q,du,rt,rf,bn,tp,tg,bd,ks⟩)
   have hin:=box (fun W hW=>hin.out W hW F)
   obtain⟨u,hu⟩:∃u:ByteArray,⟨(insideL ⟨kd,q,du,rt,rf,bn,tp,tg,bd,ks⟩).toArray⟩=u:=⟨_,rfl⟩
   have hul:u.data.toList=insideL ⟨kd,q,du,rt,rf,bn,tp,tg,bd,ks⟩:=by rw[←hu]
   have husz:u.size≤1000000:=by rw[←size_toList,hul];omega
   have hseal:=box (fun W hW=>hseal.out W hW u husz)
   rw[hul]at hseal
   rw[hu]at hin
   have hnum:=box (fun W=>num1 2 (3+(sealL (insideL ⟨kd,q,du,rt,rf,bn,tp,tg,bd,ks⟩)).length) (by decide) (by decide) (by show _<65536;omega) W (by omega))
   have hcat:=box (show (⟨#[165]⟩:ByteArray)++⟨(low 2 (3+(sealL (insideL ⟨kd,q,du,rt,rf,bn,tp,tg,bd,ks⟩)).length)).toArray⟩++⟨(sealL (insideL ⟨kd,q,du,rt,rf,bn,tp,tg,bd,ks⟩)).toArray⟩=recB ⟨kd,q,du,rt,rf,bn,tp,tg,bd,ks⟩ from ba_ext (by rw[append_toList,append_toList];unfold recB;simp))
   have hvl:(⟨(sealL (insideL ⟨kd,q,du,rt,rf,bn,tp,tg,bd,ks⟩)).toArray⟩:ByteArray).size=(sealL (insideL ⟨kd,q,du,rt,rf,bn,tp,tg,bd,ks⟩)).length:=by show (_:List UInt8).toArray.size=_;simp
   rw[←hvl]at hnum hcat
   have hvs:(⟨(sealL (insideL ⟨kd,q,du,rt,rf,bn,tp,tg,bd,ks⟩)).toArray⟩:ByteArray).size≤400:=by rw[hvl];omega
   obtain⟨v,hv⟩:∃u:ByteArray,⟨(sealL (insideL ⟨kd,q,du,rt,rf,bn,tp,tg,bd,ks⟩)).toArray⟩=u:=⟨_,rfl⟩
   rw[hv]at hnum hcat hseal hvs
   have z1:(⟨(low 2 (3+v.size)).toArray⟩:ByteArray).size=2:=low_size 2 _
   obtain⟨t,ht⟩:∃u:ByteArray,⟨(low 2 (3+v.size)).toArray⟩=u:=⟨_,rfl⟩
   rw[ht]at hnum hcat z1
   have hnum:=box (fun W=>(show Calls Tryz.prog 135 #[.int .i64 2,.slice (some ⟨W.heap.size,0,none⟩) 1 1] (W.alloc (.cells #[.int .i64 (3+(v.size:Int))] 3)) fun e w'=>e=.returned (.tuple #[.string t,.int .i64 0])∧Calm W w' from hnum.out W))
   rw[hput,←hcat.out]
   have e0:(kd==0)=false:=beq_eq_false_iff_ne.2 hk0
   clear hput hu hul husz hcat hvl hv ht hil hsl F hfit hk0
   go_enter Tryz.func111,Tryz.ntmps111
   go_wp2_with fail
   clear hW1
   refine(hright.out _ H0.out).mono ?_
   rintro e w2 ⟨rfl,hc2⟩
   have J2:=box (heap_calm hc2 Hn.out)
   have C2:=box (H0.out.trans hc2)
   clear hc2 c0 c1 c2 c3 c4 c5 c6 c7 c8 c9 hlt
   have c0:=cell_of J2.out 0
   have c1:=cell_of J2.out 1
   have c2:=cell_of J2.out 2
   have c3:=cell_of J2.out 3
   have c4:=cell_of J2.out 4
   have c5:=cell_of J2.out 5
   have c6:=cell_of J2.out 6
   have c7:=cell_of J2.out 7
   have c8:=cell_of J2.out 8
   have c9:=cell_of J2.out 9
   have hlt:=heap_lt J2.out
   go_wp2_with fail
   refine(hin.out _ C2.out).mono ?_
   rintro e w3 ⟨rfl,hc3⟩
   have C3:=box (C2.out.trans hc3)
   clear hc3
   go_wp2_with fail
   refine(hseal.out _ C3.out).mono ?_
   rintro e w4 ⟨rfl,hc4⟩
   have C4:=box (C3.out.trans hc4)
   clear hc4
   go_wp2_with fail
   refine(hnum.out _).mono ?_
   rintro e w5 ⟨rfl,hc5⟩
   have C5:=box (C4.out.trans hc5)
   clear hc5
   go_wp2_with fail
   go_ret2
   exact⟨rfl,C5.out⟩
 ·rw[if_pos hR]at hput
  rw[decide_eq_false hR]at hright
  rw[hput]
  clear hput hR
  go_enter Tryz.func111,Tryz.ntmps111
  go_wp2_with fail
  clear hW1
  refine(hright.out _ H0.out).mono ?_
  rintro e w2 ⟨rfl,hc2⟩
  have C2:=box (H0.out.trans hc2)
  clear hc2
  go_wp2_with fail
  go_ret2
  exact⟨rfl,C2.out⟩
end Go.Proofs.YtiahjipoofeliaaGreatDoor.rc

namespace Go.Proofs.YtiahjipoofeliaaGreatDoor.oc
open Go.ChangeShapes Go.WideShapes Go.ChangeAt Go.RowKit
open cr
theorem byte_string (w:World) (y:Nat):(convert 130 9 (.slice (some ⟨w.heap.size,0,none⟩) 1 1)).run Tryz.prog (w.alloc (.cells #[.int .u8 ((y:Int)%256)] 5))=.ok (.string ⟨#[UInt8.ofNat y]⟩) (w.alloc (.cells #[.int .u8 ((y:Int)%256)] 5)):=by
 have hb:BufIs (w.alloc (.cells #[.int .u8 ((y:Int)%256)] 5)) w.heap.size 1 [UInt8.ofNat y]:=by
  have h0:=heap_new w (.cells #[.int .u8 ((y:Int)%256)] 5)
  refine⟨fun j hj=>?_,fun j hj=>?_,fun j hj=>free_of h0 j,by simp,by simp⟩
  ·have:j=0:=by simpa using hj
   subst this
   rw[cell_of h0]
   simp
  ·have:j=0:=by omega
   subst this
   rw[cell_of h0]
   rfl
 exact conv_string (P:=Tryz.prog) _ 130 9 5 Tryz.underlying130 Tryz.underlying5 Tryz.underlying9 hb 1
theorem rNum_any (n x:Nat) (w:World) (hn:n≤8) (hx:x≤9223372036854775807) :
  Calls Tryz.prog 107 #[.int .i64 n,.int .i64 x] w fun e w'=>e=.returned (.string ⟨(low n x).toArray⟩)∧Calm w w':=by
 go_enter Tryz.func107,Tryz.ntmps107
 go_wp2_with fail
 go_loopw [1,5,6] (fun y s i wr=>∃k:Nat,k≤n∧i=.int .i64 k∧y=.int .i64 ((x / 256 ^ k:Nat):Int)∧s=.string ⟨(low k x).toArray⟩∧Calm w wr) (fun _ _ i _=>n-(intOf i).toNat)
 case atStart=>exact⟨0,Nat.zero_le _,rfl,by simp,rfl,Calm.refl _⟩
 case round =>
  obtain⟨k,hk,rfl,rfl,rfl,hcal⟩:=hrel
  have HC:=box hcal
  clear hcal
  by_cases hlt:k<n
  ·have hyb:x / 256 ^ k≤9223372036854775807:=Nat.le_trans (Nat.div_le_self _ _) hx
   have hlow:=box (show (⟨#[UInt8.ofNat (x / 256 ^ k)]⟩:ByteArray)++⟨(low k x).toArray⟩=⟨(low (k+1) x).toArray⟩ from ba_ext (by rw[append_toList];rfl))
   have hconv:=byte_string wr (x / 256 ^ k)
   have hdiv:=box (show x / 256 ^ k / 256=x / 256 ^ (k+1) by rw[Nat.div_div_eq_div_mul,Nat.pow_succ])
   obtain⟨y,hy⟩:∃y,x / 256 ^ k=y:=⟨_,rfl⟩
   rw[hy]at hyb hlow hdiv hconv ⊢
   clear hy
   have z1:(⟨#[UInt8.ofNat y]⟩:ByteArray).size=1:=rfl
   have z2:(⟨(low k x).toArray⟩:ByteArray).size=k:=low_size k x
   obtain⟨u,hu⟩:∃u:ByteArray,⟨#[UInt8.ofNat y]⟩=u:=⟨_,rfl⟩
   obtain⟨s,hs⟩:∃s:ByteArray,⟨(low k x).toArray⟩=s:=⟨_,rfl⟩
   rw[hu]at hlow hconv z1
   rw[hs]at hlow z2 ⊢
   clear hu hs
   go_wp2_with fail
   go_roundw
   case rel=>exact⟨k+1,by omega,by go_num,val_int (by rw[←hdiv.out];omega),congrArg Value.string hlow.out,HC.out.alloc _⟩
   case measure=>simp [intOf];omega
  ·obtain rfl:k=n:=by omega
   go_wp2_with fail
   go_ret
   exact⟨rfl,HC.out⟩
theorem rText_any (s:ByteArray) (w:World) (hs:s.size≤1000000) :
  Calls Tryz.prog 108 #[.string s] w fun e w'=>e=.returned (.string ⟨(textL s).toArray⟩)∧Calm w w':=by
 have hcat:=box (show (⟨(low 2 s.size).toArray⟩:ByteArray)++s=⟨(textL s).toArray⟩ from ba_ext (by rw[append_toList];rfl))
 have z2:(⟨(low 2 s.size).toArray⟩:ByteArray).size=2:=low_size 2 s.size
 have hnum:=box (rNum_any 2 s.size w (by decide) (by omega))
 obtain⟨u,hu⟩:∃u:ByteArray,⟨(low 2 s.size).toArray⟩=u:=⟨_,rfl⟩
 rw[hu]at hcat z2 hnum
 clear hu
 go_enter Tryz.func108,Tryz.ntmps108
 go_wp2_with fail
 refine hnum.out.mono ?_
 rintro e w2 ⟨rfl,hc2⟩
 have C2:=box hc2
 clear hc2
 go_wp2_with fail
 rw[hcat.out]
 go_ret
 exact⟨rfl,C2.out⟩
theorem rList_any (v:Value) (l:List ByteArray) (w:World) (h:StrsAt w v l) (hl:l.length≤1000) (hi:∀s∈l,s.size≤1000) :
  Calls Tryz.prog 109 #[v] w fun e w'=>e=.returned (.string ⟨(low 1 l.length++textsL l).toArray⟩)∧Calm w w':=by
 obtain⟨a,cap,rfl,hcells⟩:=h.uni
 have H:=box hcells
 have Hi:=box hi
 have hnum:=box (rNum_any 1 l.length w (by decide) (by omega))
 have hln:∀k,k≤l.length→(textsL (l.take k)).length≤k * 1002:=fun k hk=>by
  induction k with
  | zero=>simp [textsL]
  | succ k ih =>
   rw[textsL_snoc l k (by omega),List.length_append,textL_length]
   have:=ih (by omega)
   have:=hi l[k] (List.getElem_mem (by omega))
   omega
 have Hln:=box hln
 clear h hi hcells hln
 go_enter Tryz.func109,Tryz.ntmps109
 go_wp2_with fail
 refine hnum.out.mono ?_
 rintro e w2 ⟨rfl,hc2⟩
 have C2:=box hc2
 clear hc2
 go_wp2_with fail
 go_loopw [3,4] (fun s i wr=>∃k:Nat,k≤l.length∧i=.int .i64 k∧s=.string ⟨(low 1 l.length++textsL (l.take k)).toArray⟩∧Calm w wr) (fun _ i _=>l.length-(intOf i).toNat)
 case atStart=>exact⟨0,Nat.zero_le _,rfl,by simp [textsL],C2.out⟩
 case round =>
  obtain⟨k,hk,rfl,rfl,hcal⟩:=hrel
  have HC:=box hcal
  clear hcal
  by_cases hlt:k<l.length
  ·obtain⟨b,off,rfl,hb,hcell0⟩:=H.out k hlt
   have hcell:=(HC.out.cell (p:=⟨b,off+k,none⟩) hb).trans hcell0
   have hblt:=Nat.lt_of_lt_of_le hb HC.out.size
   rw[List.getD_eq_getElem?_getD,List.getElem?_eq_getElem hlt]at hcell
   simp only[Option.getD_some]at hcell
   have hsz:=Hi.out l[k] (List.getElem_mem hlt)
   have hcat:=box (show (⟨(low 1 l.length++textsL (l.take k)).toArray⟩:ByteArray)++⟨(textL l[k]).toArray⟩=⟨(low 1 l.length++textsL (l.take (k+1))).toArray⟩ from ba_ext (by rw[append_toList,textsL_snoc l k hlt];simp))
   have htx:=box (rText_any l[k] wr (by omega))
   have z1:(⟨(low 1 l.length++textsL (l.take k)).toArray⟩:ByteArray).size≤2000000:=by
    have h1:=Hln.out k hk
    show (low 1 l.length++textsL (l.take k)).toArray.size≤_
    rw[List.size_toArray,List.length_append,low_length]
    have:k * 1002≤1000 * 1002:=Nat.mul_le_mul_right _ (by omega)
    omega
   have z2:(⟨(textL l[k]).toArray⟩:ByteArray).size≤2000000:=by show (textL l[k]).toArray.size≤_;rw[List.size_toArray,textL_length];omega
   obtain⟨s,hs⟩:∃s,l[k]=s:=⟨_,rfl⟩
   rw[hs]at hcell hcat htx z2
   obtain⟨u,hu⟩:∃u:ByteArray,⟨(textL s).toArray⟩=u:=⟨_,rfl⟩
   rw[hu]at hcat htx z2
   obtain⟨x,hx⟩:∃u:ByteArray,⟨(low 1 l.length++textsL (l.take k)).toArray⟩=u:=⟨_,rfl⟩
   rw[hx]at hcat z1 ⊢
   clear hu hs hx hcell0 hsz
   go_wp2_with fail
   refine htx.out.mono ?_
   rintro e w3 ⟨rfl,hc3⟩
   have C3:=box (HC.out.trans hc3)
   clear hc3
   go_wp2_with fail
   go_roundw
   case rel=>exact⟨k+1,by omega,by go_num,congrArg Value.string hcat.out,C3.out⟩
   case measure=>simp [intOf];omega
  ·obtain rfl:k=l.length:=by omega
   go_wp2_with fail
   go_ret
   exact⟨by rw[List.take_length];rfl,HC.out⟩
end Go.Proofs.YtiahjipoofeliaaGreatDoor.oc
namespace Go.Proofs.YtiahjipoofeliaaGreatDoor.cr
open Go.ChangeShapes Go.WideShapes Go.ChangeAt Go.RowKit
open oc
theorem xor64 (a b:Nat) (ha:a<4294967296) (hb:b<4294967296):bits .xor .i64 (a:Int) (b:Int)=((a ^^^ b:Nat):Int):=by
 have hx:a ^^^ b<4294967296:=Nat.xor_lt_two_pow (n:=32) (by omega) (by omega)
 simp only[bits,BitVec.ofInt_natCast,BitVec.toNat_xor,BitVec.toNat_ofNat]
 rw[show IntKind.i64.bits=64 from rfl,Nat.mod_eq_of_lt (by omega),Nat.mod_eq_of_lt (by omega),IntKind.wrap_i64]
 omega
theorem xor_all (x:Nat) (h:x<4294967296):4294967295 ^^^ x=4294967295-x:=by
 have h1:=Nat.and_xor_distrib_right (a:=4294967295) (b:=0) (c:=x)
 apply Nat.eq_of_testBit_eq
 intro i
 rw[Nat.testBit_xor,show (4294967295:Nat)-x=2 ^ 32-(x+1) by omega,Nat.testBit_two_pow_sub_succ (by omega),show (4294967295:Nat)=2 ^ 32-1 from rfl,Nat.testBit_two_pow_sub_one]
 by_cases hi:i<32
 ·simp [hi]
 ·have:x.testBit i=false:=Nat.testBit_lt_two_pow (Nat.lt_of_lt_of_le (show x<2 ^ 32 by omega) (Nat.pow_le_pow_right (by decide) (by omega)))
  simp [hi,this]
set_option maxHeartbeats 2000000 in
theorem rSum_any (s:ByteArray) (w:World) (hs:s.size≤1000000) :
  Calls Tryz.prog 155 #[.string s] w fun e w'=>e=.returned (.int .i64 (crcN s.data.toList:Nat))∧w=w':=by
 have Hs:=box hs
 clear hs
 go_enter Tryz.func155,Tryz.ntmps155
 go_wp2_with fail
 go_loopw [3,4] (fun r i wr=>wr=w∧∃k y:Nat,k≤s.size∧i=.int .i64 k∧r=.int .i64 y∧y<4294967296∧y=(s.data.toList.take k).foldl crcB 4294967295) (fun _ i _=>s.size-(intOf i).toNat)
 case atStart=>exact⟨by first|rfl|trivial,0,4294967295,Nat.zero_le _,rfl,rfl,by decide,rfl⟩
 case round =>
  obtain⟨rfl,k,y,hk,rfl,rfl,hy,hyf⟩:=hrel
  have Hyf:=box hyf
  clear hyf
  by_cases hlt:k<s.size
  ·have hnext:=box (show (s.data.toList.take (k+1)).foldl crcB 4294967295=crcB ((s.data.toList.take k).foldl crcB 4294967295) s[k] by
    rw[List.take_succ_eq_append_getElem (by rw[size_toList];exact hlt),List.foldl_append];rfl)
   rw[←Hyf.out]at hnext
   have hx1:=xor64 y s[k].toNat hy (by have:=s[k].toNat_lt;omega)
   have hx2:y ^^^ s[k].toNat<4294967296:=Nat.xor_lt_two_pow (n:=32) (by omega) (by have:=s[k].toNat_lt;omega)
   have hcb:=box (show steps 8 (y ^^^ s[k].toNat)=crcB y s[k] from rfl)
   have hcl:=box (crcB_lt hy s[k])
   obtain⟨z,hz⟩:∃z,y ^^^ s[k].toNat=z:=⟨_,rfl⟩
   rw[hz]at hx1 hx2 hcb
   obtain⟨q,hq⟩:∃q,crcB y s[k]=q:=⟨_,rfl⟩
   rw[hq]at hcb hcl hnext
   have hsk:s[k].toNat<256:=s[k].toNat_lt
   have hs6:=Hs.out
   clear hz hq
   go_wp2_with fail
   go_loopw [3,5] (fun r j wr'=>wr'=wr∧∃n x:Nat,n≤8∧j=.int .i64 n∧r=.int .i64 x∧x<4294967296∧steps (8-n) x=q) (fun _ j _=>8-(intOf j).toNat)
   case atStart=>exact⟨by first|rfl|trivial,0,z,by omega,rfl,rfl,hx2,hcb.out⟩
   case round =>
    obtain⟨rfl,n,x,hn,rfl,rfl,hxl,hst⟩:=hrel
    have Hst:=box hst
    clear hst
    by_cases hn8:n<8
    ·have hst2:=box (show steps (8-(n+1)) (step1 x)=q by rw[←Hst.out,show 8-n=(8-(n+1))+1 by omega];rfl)
     have hs1:=box (step1_lt hxl)
     have hm:Int.tmod (x:Int) 2=((x%2:Nat):Int):=by rw[Int.tmod_eq_emod_of_nonneg (by omega)];omega
     have hd:Int.tdiv (x:Int) 2=((x / 2:Nat):Int):=by rw[Int.tdiv_eq_ediv_of_nonneg (by omega)];omega
     by_cases hodd:x%2=1
     ·rw[hodd]at hm
      have hx:bits .xor .i64 ((x / 2:Nat):Int) 3988292384=((step1 x:Nat):Int):=by
       have:=xor64 (x / 2) 3988292384 (by omega) (by decide)
       unfold step1
       rw[if_pos hodd,←show ((3988292384:Nat):Int)=3988292384 from rfl,this]
       rfl
      have hh:x / 2<4294967296:=by omega
      obtain⟨u,hu⟩:∃u,x / 2=u:=⟨_,rfl⟩
      rw[hu]at hd hx hh
      clear hu
      go_wp2_with fail
      go_roundw
      case rel=>exact⟨by first|rfl|trivial,n+1,step1 x,by omega,by go_num,rfl,hs1.out,hst2.out⟩
      case measure=>simp [intOf];omega
     ·have h0:x%2=0:=by omega
      rw[h0]at hm
      have hx:x / 2=step1 x:=by unfold step1;rw[if_neg hodd,Nat.xor_zero]
      rw[hx]at hd
      have hh:=hs1.out
      go_wp2_with fail
      go_roundw
      case rel=>exact⟨by first|rfl|trivial,n+1,step1 x,by omega,by go_num,rfl,hs1.out,hst2.out⟩
      case measure=>simp [intOf];omega
    ·obtain rfl:n=8:=by omega
     have hxq:x=q:=Hst.out
     go_wp2_with fail
     go_roundw
     case rel=>exact⟨by first|rfl|trivial,k+1,x,by omega,by go_num,rfl,hxl,by rw[hnext.out,hxq]⟩
     case measure=>simp [intOf];omega
  ·obtain rfl:k=s.size:=by omega
   have hfin:crcN s.data.toList=4294967295-y:=by
    unfold crcN
    have:=Hyf.out
    rw[List.take_of_length_le (by rw[size_toList];exact Nat.le_refl _)]at this
    rw[←this,xor_all y hy]
   go_wp2_with fail
   go_ret
   exact⟨ret_int (by rw[hfin];omega),rfl⟩
end Go.Proofs.YtiahjipoofeliaaGreatDoor.cr
