/- Lemmas for this claim. -/
import Derived.Laws.MakeOwn
import Derived.Test.YtiahjipoofeliaaGreatDoorPk12
set_option maxRecDepth 100000
namespace Go.Proofs.YtiahjipoofeliaaGreatDoor.oc
open Go.ChangeShapes Go.WideShapes Go.ChangeAt Go.RowKit
def getN (l:List UInt8):Nat:=l.foldl (fun x b=>256 * x+b.toNat) 0
theorem getN_snoc (l:List UInt8) (b:UInt8):getN (l++[b])=256 * getN l+b.toNat:=by unfold getN;rw[List.foldl_append];rfl
theorem getN_take (l:List UInt8):∀k,k≤l.length→getN (l.take k)<256 ^ k
 | 0,_=>by simp [getN]
 | k+1,h=>by
  have ih:=getN_take l k (by omega)
  rw[List.take_succ_eq_append_getElem (by omega),getN_snoc,Nat.pow_succ]
  have:=(l[k]).toNat_lt
  omega
theorem or_join (x b:Nat) (hx:x<281474976710656) (hb:b<256):bits .or .i64 (wrap64 ((x:Int) * 256)) (wrap64 (b:Int))=((256 * x+b:Nat):Int):=by
 have e1:wrap64 ((x:Int) * 256)=((x * 2 ^ 8:Nat):Int):=by
  unfold wrap64;omega
 have e2:wrap64 (b:Int)=(b:Int):=by
  unfold wrap64;omega
 rw[e1,e2]
 rw[bits_join .i64 63 (by decide) (fun n h0 h1=>by rw[IntKind.wrap_i64];omega) 8 _ _ (by omega) (by omega) (by omega) (by omega) (by omega) (by omega)]
 omega
def low:Nat→Nat→List UInt8
 | 0,_=>[]
 | n+1,x=>UInt8.ofNat (x / 256 ^ n) :: low n x
theorem low_length:∀(n x:Nat),(low n x).length=n
 | 0,_=>rfl
 | n+1,x=>by simp [low,low_length n x]
set_option maxHeartbeats 1000000 in
theorem get_any (s:ByteArray) (w:World) (hs:s.size≤7):Calls Tryz.prog 162 #[.string s] w fun e w'=>e=.returned (.int .i64 (getN s.data.toList))∧w=w':=by
 go_enter Tryz.func162,Tryz.ntmps162
 go_wp2
 go_loop [3,7] (fun x i=>∃k:Nat,k≤s.size∧i=.int .i64 k∧x=.int .i64 (getN (s.data.toList.take k))) (fun _ i=>s.size-(intOf i).toNat)
 case atStart=>exact⟨0,Nat.zero_le _,rfl,rfl⟩
 case round =>
  obtain⟨k,hk,rfl,rfl⟩:=hrel
  by_cases hlt:k<s.size
  ·have hb:=getN_take s.data.toList k (by simp;omega)
   have hp:256 ^ k≤256 ^ 6:=Nat.pow_le_pow_right (by decide) (by omega)
   have hsn:=box (show getN (s.data.toList.take (k+1))=256 * getN (s.data.toList.take k)+s[k].toNat by
    rw[List.take_succ_eq_append_getElem (by simpa using hlt),getN_snoc];rfl)
   have hor:=box (or_join (getN (s.data.toList.take k)) s[k].toNat (by omega) (s[k]).toNat_lt)
   clear hb hp
   go_wp2
   go_round
   case rel=>exact⟨k+1,by omega,by go_num,by rw[hor.out,hsn.out]⟩
   case measure=>simp [intOf];omega
  ·obtain rfl:k=s.size:=by omega
   go_wp2
   go_ret
   exact⟨ret_int (by rw[List.take_of_length_le (by simp)]),rfl⟩
theorem infoByte:(Tryz.prog.info? 5).map (fun i=>(i.zero,i.size,i.bytes))=some (some (.int .u8 0),1,1):=by kernel_rfl
theorem u8_ofNat (y:Nat):((UInt8.ofNat y).toNat:Int)=(y:Int)%256:=by simp
theorem made_bytes (w:World) (n:Nat):BufIs (w.alloc (.cells (madeCells #[Value.int .u8 0] n) 5)) w.heap.size n (List.replicate n 0):=by
 have hb:=heap_new w (.cells (madeCells #[Value.int .u8 0] n) 5)
 have hc:∀j,j<n→(madeCells #[Value.int .u8 0] n)[j]? = some (.int .u8 0):=fun j hj=>by
  unfold madeCells;simp [hj,Nat.mod_one]
 refine⟨fun j hj=>?_,fun j hj=>?_,fun j hj=>free_of hb j,by simp,heap_lt hb⟩
 ·simp only[List.length_replicate]at hj
  rw[cell_of hb,hc j hj]
  simp [List.getD_eq_getElem?_getD,hj]
 ·rw[cell_of hb,hc j hj];rfl
theorem low_over (n k x:Nat) (hk:k<n):(List.replicate (n-k) (0:UInt8)++low k x).take (n-1-k)++[UInt8.ofNat (x / 256 ^ k)]++(List.replicate (n-k) (0:UInt8)++low k x).drop (n-1-k+1)=List.replicate (n-(k+1)) 0++low (k+1) x:=by
 rw[List.take_append_of_le_length (by simp;omega),List.take_replicate,Nat.min_eq_left (by omega),List.drop_append_of_le_length (by simp;omega),List.drop_replicate,
  show n-k-(n-1-k+1)=0 by omega,show n-1-k=n-(k+1) by omega]
 simp [low]
set_option maxHeartbeats 2000000 in
theorem put_any (n x:Nat) (w:World) (hn:n≤8) (hx:x≤9223372036854775807):Calls Tryz.prog 178 #[.int .i64 n,.int .i64 x] w fun e w'=>e=.returned (.string ⟨(low n x).toArray⟩)∧Calm w w':=by
 obtain⟨i0,hi,hz0,hz1,hz2⟩:=info_parts infoByte
 have hmk:=run_make (P:=Tryz.prog) w 130 5 i0 _ Tryz.underlying130 hi hz0 .i64 .i64 n n (by omega) (Int.le_refl _) (by rw[hz2];omega) (by omega)
 simp only[hz1,Int.toNat_natCast,Nat.mul_one]at hmk
 have hcells:(Value.int IntKind.u8 0).cells=#[Value.int .u8 0]:=rfl
 rw[hcells]at hmk
 have hbuf:=box (made_bytes w n)
 have hc0:=box (show Calm w (w.alloc (.cells (madeCells #[Value.int .u8 0] n) 5)) from (Calm.refl w).alloc _)
 clear hcells hi hz0 hz1 hz2
 go_enter Tryz.func178,Tryz.ntmps178
 go_wp2_with fail
 clear hmk
 go_loopw [1,11] (fun y i wr=>∃k:Nat,k≤n∧i=.int .i64 k∧y=.int .i64 ((x / 256 ^ k:Nat):Int)∧BufIs wr w.heap.size n (List.replicate (n-k) 0++low k x)∧Calm w wr) (fun _ i _=>n-(intOf i).toNat)
 case atStart=>exact⟨0,Nat.zero_le _,rfl,by simp,by simpa [low] using hbuf.out,hc0.out⟩
 case round =>
  obtain⟨k,hk,rfl,rfl,hB,hC⟩:=hrel
  have hxk:x / 256 ^ k≤x:=Nat.div_le_self _ _
  have hdiv:=box (show x / 256 ^ (k+1)=x / 256 ^ k / 256 by rw[Nat.pow_succ,Nat.div_div_eq_div_mul])
  by_cases hlt:k<n
  ·obtain⟨u,hcell⟩:=Option.isSome_iff_exists.1 (hB.room (n-1-k) (by omega))
   have hfree:=hB.free (n-1-k) (by omega)
   have hov:=hB.over (n-1-k) [UInt8.ofNat (x / 256 ^ k)] (by simp [low_length];omega)
   simp only[List.length_singleton,List.map_cons,List.map_nil,World.setCells,byteV,u8_ofNat]at hov
   rw[low_over n k x hlt]at hov
   have Hov:=box hov
   have HC:=box hC
   have hlt9:=hB.lt
   obtain⟨y,hy⟩:∃y,x / 256 ^ k=y:=⟨_,rfl⟩
   rw[hy]at hxk hdiv Hov
   rw[hy]
   clear hov hB hC hy
   obtain⟨m,hm⟩:∃m:Nat,n-1-k=m:=⟨_,rfl⟩
   rw[hm]at hcell hfree Hov
   have q1:IntKind.i64.wrap ((n:Int)-1)=n-1:=IntWalk.i64_in _ (by omega)
   have q2:IntKind.i64.wrap ((n:Int)-1-k)=m:=by rw[IntWalk.i64_in _ (by omega)];omega
   have q3:(n:Int)-1-k=m:=by omega
   have hmn:m<n:=by omega
   have HC2:=box (show Calm w (wr.setCell ⟨w.heap.size,m,none⟩ (.int .u8 ((y:Int)%256))) from ((Keeps.of_calm (F:=fun b=>w.heap.size≤b) HC.out).setCell (p:=⟨w.heap.size,m,none⟩) (.inl (Nat.le_refl _)) _).below (Nat.le_refl _) (fun _ h=>h))
   go_wp2
   go_roundw
   case rel=>exact⟨k+1,by omega,by go_num,by rw[hdiv.out];go_num,Hov.out,HC2.out⟩
   case measure=>simp [intOf];omega
  ·obtain rfl:k=n:=by omega
   have hback:=conv_string (P:=Tryz.prog) _ 130 9 5 Tryz.underlying130 Tryz.underlying5 Tryz.underlying9 hB k
   simp only[Nat.sub_self,List.replicate_zero,List.nil_append,low_length]at hback
   have HC:=box hC
   clear hB hC hdiv hxk
   go_wp2
   go_ret
   exact⟨rfl,HC.out⟩
structure Rdr where
 s:ByteArray
 e:Int
def RdrAt (w:World) (b:Nat) (R:Rdr):Prop:=w.heap[b]? = some (.cells #[.string R.s,.int .i64 R.e] 210 (0,0))
theorem RdrAt.cells {w:World} {b:Nat} {R:Rdr} (h:RdrAt w b R):w.cell? ⟨b,0,none⟩=some (.string R.s)∧w.cell? ⟨b,1,none⟩=some (.int .i64 R.e)∧w.frozen? ⟨b,0,none⟩=false∧w.frozen? ⟨b,1,none⟩=false∧b<w.heap.size :=
 ⟨cell_of h 0,cell_of h 1,free_of h 0,free_of h 1,heap_lt h⟩
theorem RdrAt.setE {w:World} {b:Nat} {R:Rdr} (h:RdrAt w b R) (e:Int):RdrAt (w.setCell ⟨b,1,none⟩ (.int .i64 e)) b ⟨R.s,e⟩:=by
 have:=heap_set h 1 (.int .i64 e);exact this
theorem RdrAt.setS {w:World} {b:Nat} {R:Rdr} (h:RdrAt w b R) (s:ByteArray):RdrAt (w.setCell ⟨b,0,none⟩ (.string s)) b ⟨s,R.e⟩:=by
 have:=heap_set h 0 (.string s);exact this
def Rdr.take (R:Rdr) (n:Int):ByteArray×Rdr :=
 if R.e≠0 then (⟨#[]⟩,R) else if n<0 then (⟨#[]⟩,⟨R.s,1⟩) else if (R.s.size:Int)<n then (⟨#[]⟩,⟨R.s,3⟩) else (R.s.extract 0 n.toNat,⟨R.s.extract n.toNat R.s.size,0⟩)
def RdrDone (v:Value) (b:Nat) (R:Rdr) (w:World) (e:Ending) (w':World):Prop:=e=.returned v∧RdrAt w' b R∧Keeps (· = b) w w'
theorem New_any (s:ByteArray) (w:World):Calls Tryz.prog 118 #[.string s] w fun e w'=>∃b,w.heap.size≤b∧e=.returned (.pointer (some ⟨b,0,none⟩))∧RdrAt w' b ⟨s,0⟩∧Calm w w':=by
 have hn:=box (heap_new w (.cells #[.string s,.int .i64 0] 210))
 go_enter Tryz.func118,Tryz.ntmps118
 go_wp2
 go_ret
 exact⟨w.heap.size,Nat.le_refl _,rfl,hn.out,(Calm.refl w).alloc _⟩
theorem Err_any (b:Nat) (R:Rdr) (w:World) (h:RdrAt w b R):Calls Tryz.prog 121 #[.pointer (some ⟨b,0,none⟩)] w fun e w'=>e=.returned (.int .i64 R.e)∧w=w':=by
 obtain⟨c0,c1,f0,f1,hb⟩:=h.cells
 clear h
 go_enter Tryz.func121,Tryz.ntmps121
 go_wp2
 go_ret
 exact⟨rfl,rfl⟩
set_option maxHeartbeats 2000000 in
theorem Take_any (b:Nat) (R:Rdr) (n:Int) (w:World) (h:RdrAt w b R) (hs:R.s.size≤9223372036854775807) :
  Calls Tryz.prog 119 #[.pointer (some ⟨b,0,none⟩),.int .i64 n] w (RdrDone (.string (R.take n).1) b (R.take n).2 w):=by
 obtain⟨s,e⟩:=R
 obtain⟨c0,c1,f0,f1,hb⟩:=h.cells
 have H:=box h
 have HE:=box (Err_any b ⟨s,e⟩ w h)
 clear h
 simp only at c0 c1 hs
 by_cases he:e=0
 ·subst he
  by_cases hn:n<0
  ·have hr:=box (show Rdr.take ⟨s,0⟩ n=(⟨#[]⟩,⟨s,1⟩) by unfold Rdr.take;rw[if_neg (fun h=>h rfl),if_pos hn])
   rw[hr.out]
   go_enter Tryz.func119,Tryz.ntmps119
   go_wp2_with fail
   refine HE.out.mono ?_
   rintro e w' ⟨rfl,rfl⟩
   go_wp2_with fail
   go_ret
   exact⟨rfl,H.out.setE 1,(Keeps.refl (fun x=>x=b) w).setCell (p:=⟨b,1,none⟩) (.inl rfl) _⟩
  ·by_cases hl:(s.size:Int)<n
   ·have hr:=box (show Rdr.take ⟨s,0⟩ n=(⟨#[]⟩,⟨s,3⟩) by unfold Rdr.take;rw[if_neg (fun h=>h rfl),if_neg hn,if_pos hl])
    rw[hr.out]
    go_enter Tryz.func119,Tryz.ntmps119
    go_wp2_with fail
    refine HE.out.mono ?_
    rintro e w' ⟨rfl,rfl⟩
    go_wp2_with fail
    go_ret
    exact⟨rfl,H.out.setE 3,(Keeps.refl (fun x=>x=b) w).setCell (p:=⟨b,1,none⟩) (.inl rfl) _⟩
   ·have hr:=box (show Rdr.take ⟨s,0⟩ n=(s.extract 0 n.toNat,⟨s.extract n.toNat s.size,0⟩) by unfold Rdr.take;rw[if_neg (fun h=>h rfl),if_neg hn,if_neg hl])
    rw[hr.out]
    obtain⟨k,rfl⟩:∃k:Nat,n=k:=⟨n.toNat,by omega⟩
    have hk:k≤s.size:=by omega
    have b1:decide ((k:Int)<0)=false:=decide_eq_false (by omega)
    have b2:decide ((s.size:Int)<k)=false:=decide_eq_false (by omega)
    have b3:decide (s.size<k)=false:=decide_eq_false (by omega)
    clear hn hl
    go_enter Tryz.func119,Tryz.ntmps119
    go_wp2_with fail
    refine HE.out.mono ?_
    rintro e w' ⟨rfl,rfl⟩
    go_wp2_with fail
    go_ret
    simp only[Int.toNat_natCast]
    exact⟨rfl,H.out.setS _,(Keeps.refl (fun x=>x=b) w).setCell (p:=⟨b,0,none⟩) (.inl rfl) _⟩
 ·have hr:=box (show Rdr.take ⟨s,e⟩ n=(⟨#[]⟩,⟨s,e⟩) by unfold Rdr.take;rw[if_pos he])
  rw[hr.out]
  have he':(e==0)=false:=by rw[beq_eq_false_iff_ne];exact he
  clear he
  go_enter Tryz.func119,Tryz.ntmps119
  go_wp2_with fail
  refine HE.out.mono ?_
  rintro e w' ⟨rfl,rfl⟩
  go_wp2_with fail
  go_ret
  exact⟨rfl,H.out,.refl _ _⟩
def Rdr.num (R:Rdr) (n:Int):Int×Rdr :=
 if R.e≠0 then (0,R) else if n<1∨7<n then (0,⟨R.s,1⟩) else (((getN (R.take n).1.data.toList:Nat):Int),(R.take n).2)
theorem take_size (R:Rdr) (n:Int) (h:n≤7):(R.take n).1.size≤7:=by
 unfold Rdr.take
 split;exact Nat.zero_le _
 split;exact Nat.zero_le _
 split;exact Nat.zero_le _
 simp only[ByteArray.size_extract];omega
set_option maxHeartbeats 2000000 in
theorem RNum_any (b:Nat) (R:Rdr) (n:Int) (w:World) (h:RdrAt w b R) (hs:R.s.size≤9223372036854775807) :
  Calls Tryz.prog 120 #[.pointer (some ⟨b,0,none⟩),.int .i64 n] w (RdrDone (.int .i64 (R.num n).1) b (R.num n).2 w):=by
 obtain⟨c0,c1,f0,f1,hb⟩:=h.cells
 have H:=box h
 have HE:=box (Err_any b R w h)
 have HT:=box (Take_any b R n w h hs)
 have hts:=box (take_size R n)
 clear h
 by_cases he:R.e=0
 ·rw[he]at c1 HE
  by_cases hn:n<1∨7<n
  ·have hr:=box (show R.num n=(0,⟨R.s,1⟩) by unfold Rdr.num;rw[if_neg (by simpa using he),if_pos hn])
   rw[hr.out]
   clear he
   have hn':n<1∨(1≤n∧7<n):=by omega
   clear hn
   rcases hn' with h1|⟨h1,h2⟩
   all_goals
    go_enter Tryz.func120,Tryz.ntmps120
    go_wp2_with fail
    refine HE.out.mono ?_
    rintro e w' ⟨rfl,rfl⟩
    go_wp2_with fail
    go_ret
    exact⟨rfl,H.out.setE 1,(Keeps.refl (fun x=>x=b) w).setCell (p:=⟨b,1,none⟩) (.inl rfl) _⟩
  ·have hr:=box (show R.num n=(((getN (R.take n).1.data.toList:Nat):Int),(R.take n).2) by unfold Rdr.num;rw[if_neg (by simpa using he),if_neg hn])
   rw[hr.out]
   have h1:1≤n:=by omega
   have h2:n≤7:=by omega
   clear he hn
   obtain⟨⟨x,R2⟩,hT⟩:∃r,R.take n=r:=⟨_,rfl⟩
   rw[hT]at HT hts
   rw[hT]
   simp only at HT hts
   have hx:=hts.out h2
   clear hT
   go_enter Tryz.func120,Tryz.ntmps120
   go_wp2_with fail
   refine HE.out.mono ?_
   rintro e w' ⟨rfl,rfl⟩
   go_wp2_with fail
   refine HT.out.mono ?_
   rintro e w2 ⟨rfl,hR2,hk2⟩
   have hR2:=box hR2
   have hk2:=box hk2
   go_wp2_with fail
   refine(get_any x _ hx).mono ?_
   rintro e w3 ⟨rfl,rfl⟩
   go_wp2_with fail
   go_ret
   exact⟨rfl,hR2.out,hk2.out⟩
 ·have hr:=box (show R.num n=(0,R) by unfold Rdr.num;rw[if_pos (by simpa using he)])
  rw[hr.out]
  have he':(R.e==0)=false:=by rw[beq_eq_false_iff_ne];exact he
  clear he
  go_enter Tryz.func120,Tryz.ntmps120
  go_wp2_with fail
  refine HE.out.mono ?_
  rintro e w' ⟨rfl,rfl⟩
  go_wp2_with fail
  go_ret
  exact⟨rfl,H.out,.refl _ _⟩
end Go.Proofs.YtiahjipoofeliaaGreatDoor.oc
