/- Lemmas for this claim. -/
import Derived.Test.YtiahjipoofeliaaGreatDoorPk26
set_option maxRecDepth 100000
namespace Go.Proofs.YtiahjipoofeliaaGreatDoor.rc
open Go.ChangeShapes Go.WideShapes Go.ChangeAt Go.RowKit Go.Shelf
open nm vs oc
theorem fits_nat (n x:Nat) (h:x<256 ^ n):fitsN n (x:Int)=true:=by
 unfold fitsN
 rw[decide_eq_true (by omega),decide_eq_true (by have:=Int.ofNat_lt.2 h;rwa[Int.natCast_pow]at this)];rfl
theorem num1 (n x:Nat) (h1:1≤n) (h7:n≤7) (hx:x<256 ^ n) (W:World) (h63:x≤9223372036854775807) :
  Calls Tryz.prog 135 #[.int .i64 n,.slice (some ⟨W.heap.size,0,none⟩) 1 1] (W.alloc (.cells #[.int .i64 x] 3)) fun e w'=>e=.returned (.tuple #[.string ⟨(low n x).toArray⟩,.int .i64 0])∧Calm W w':=by
 have hn:=heap_new W (.cells #[.int .i64 x] 3)
 have h:=Num_any n (some ⟨W.heap.size,0,none⟩) 1 [(x:Int)] (W.alloc (.cells #[.int .i64 x] 3)) (fun k hk=>⟨W.heap.size,0,rfl,heap_lt hn,by
  have:k=0:=by simpa using hk
  subst this
  exact cell_of hn 0⟩) (by simp) (fun z hz=>by rw[List.mem_singleton]at hz;subst hz;omega)
 have hb:oc.numB n [(x:Int)]=(⟨(low n x).toArray⟩,0):=by
  unfold oc.numB
  rw[if_neg (by omega),if_pos (by simp only[List.all_cons,List.all_nil,Bool.and_true,Int.toNat_natCast];exact fits_nat n x hx)]
  simp [lowN]
 rw[hb]at h
 exact h.mono fun e w' ⟨h1,h2⟩=>⟨h1,((Calm.refl W).alloc _).trans h2⟩
theorem num3 (n x y z:Nat) (h1:1≤n) (h7:n≤7) (hx:x<256 ^ n) (hy:y<256 ^ n) (hz:z<256 ^ n) (W:World) (h63:x≤9223372036854775807∧y≤9223372036854775807∧z≤9223372036854775807) :
  Calls Tryz.prog 135 #[.int .i64 n,.slice (some ⟨W.heap.size,0,none⟩) 3 3] (W.alloc (.cells #[.int .i64 x,.int .i64 y,.int .i64 z] 3)) fun e w'=>e=.returned (.tuple #[.string ⟨(low n x++(low n y++low n z)).toArray⟩,.int .i64 0])∧Calm W w':=by
 have hn:=heap_new W (.cells #[.int .i64 x,.int .i64 y,.int .i64 z] 3)
 have h:=Num_any n (some ⟨W.heap.size,0,none⟩) 3 [(x:Int),(y:Int),(z:Int)] (W.alloc (.cells #[.int .i64 x,.int .i64 y,.int .i64 z] 3)) (fun k hk=>⟨W.heap.size,0,rfl,heap_lt hn,by
  rw[Nat.zero_add,cell_of hn]
  match k,hk with
  | 0,_=>rfl
  | 1,_=>rfl
  | 2,_=>rfl⟩) (by simp) (fun v hv=>by simp only[List.mem_cons,List.not_mem_nil,or_false]at hv;rcases hv with rfl|rfl|rfl<;>omega)
 have hb:oc.numB n [(x:Int),(y:Int),(z:Int)]=(⟨(low n x++(low n y++low n z)).toArray⟩,0):=by
  unfold oc.numB
  rw[if_neg (by omega),if_pos (by simp only[List.all_cons,List.all_nil,Bool.and_true,Int.toNat_natCast,Bool.and_eq_true];exact⟨fits_nat n x hx,fits_nat n y hy,fits_nat n z hz⟩)]
  simp [lowN]
 rw[hb]at h
 exact h.mono fun e w' ⟨h1,h2⟩=>⟨h1,((Calm.refl W).alloc _).trans h2⟩
set_option maxHeartbeats 2000000 in
theorem Fill_any (n:Int) (w:World):Calls Tryz.prog 112 #[.int .i64 n] w fun e w'=>e=.returned (.tuple (if 3≤n∧n≤1024 then #[.string (fillB n.toNat),.bool true] else #[.string ⟨#[]⟩,.bool false]))∧Calm w w':=by
 by_cases h:3≤n∧n≤1024
 ·rw[if_pos h]
  obtain⟨h3,h4⟩:=h
  obtain⟨k,rfl⟩:∃k:Nat,n=k:=⟨n.toNat,by omega⟩
  have hnum:=box (num1 2 k (by decide) (by decide) (by show k<65536;omega) w (by omega))
  have hno:=box (fun W=>noughts_any (k-3) W (by omega))
  rw[show (((k-3:Nat):Int))=(k:Int)-3 by omega]at hno
  have z1:(⟨(low 2 k).toArray⟩:ByteArray).size=2:=low_size 2 k
  have z2:=zerosB_size (k-3)
  have hcat:=box (show (⟨#[90]⟩:ByteArray)++⟨(low 2 k).toArray⟩++zerosB (k-3)=fillB k from ba_ext (by rw[append_toList,append_toList];unfold fillB zerosB;simp))
  rw[Int.toNat_natCast]
  obtain⟨u,hu⟩:∃u:ByteArray,⟨(low 2 k).toArray⟩=u:=⟨_,rfl⟩
  obtain⟨t,ht⟩:∃t:ByteArray,zerosB (k-3)=t:=⟨_,rfl⟩
  rw[hu]at hnum z1 hcat
  rw[ht]at hno z2 hcat
  rw[←hcat.out]
  clear hu ht hcat
  go_enter Tryz.func112,Tryz.ntmps112
  go_wp2_with fail
  refine hnum.out.mono ?_
  rintro e w2 ⟨rfl,hc2⟩
  have C2:=box hc2
  clear hc2
  go_wp2_with fail
  refine(hno.out _).mono ?_
  rintro e w3 ⟨rfl,hc3⟩
  have C3:=box (C2.out.trans hc3)
  clear hc3
  go_wp2_with fail
  go_ret2
  exact⟨rfl,C3.out⟩
 ·rw[if_neg h]
  have h':n<3∨(3≤n∧1024<n):=by omega
  clear h
  rcases h' with h1|⟨h1,h2⟩
  all_goals
   go_enter Tryz.func112,Tryz.ntmps112
   go_wp2_with fail
   go_ret2
   exact⟨rfl,Calm.refl _⟩
set_option maxHeartbeats 4000000 in
theorem inside_any (m:MsgS) (kv:Value) (w:World) (hk:StrsAt w kv m.keys) (F:Fits m) :
  Calls Tryz.prog 158 #[.agg (msgA m kv)] w fun e w'=>e=.returned (.string ⟨(insideL m).toArray⟩)∧Calm w w':=by
 have hks:=F.key
 have hkl:=F.keys
 have hlist:=box (fun W (hW:Calm w W)=>OList_any kv m.keys W (hk.calm hW) (by omega) (fun s hs=>by have:=hks s hs;unfold maxLen;omega))
 have hlb:listB m.keys=(⟨(low 1 m.keys.length++textsL m.keys).toArray⟩,0):=by
  unfold listB
  rw[if_neg (by omega),if_pos (List.all_eq_true.2 fun s hs=>decide_eq_true (by have:=hks s hs;omega))]
 rw[hlb]at hlist
 have hll:=textsL_le m.keys hks
 obtain⟨kd,q,du,rt,rf,bn,tp,tg,bd,ks⟩:=m
 obtain⟨f1,f2,f3,f4,f5,f6,f7,f8,f9,f10,f11⟩:=F
 simp only at *
 obtain⟨kd,rfl⟩:∃k:Nat,kd=k:=⟨kd.toNat,by omega⟩
 obtain⟨q,rfl⟩:∃k:Nat,q=k:=⟨q.toNat,by omega⟩
 obtain⟨rt,rfl⟩:∃k:Nat,rt=k:=⟨rt.toNat,by omega⟩
 obtain⟨bn,rfl⟩:∃k:Nat,bn=k:=⟨bn.toNat,by omega⟩
 obtain⟨du,rfl⟩:∃k:Nat,du=k:=⟨du.toNat,by omega⟩
 obtain⟨rf,rfl⟩:∃k:Nat,rf=k:=⟨rf.toNat,by omega⟩
 obtain⟨ka,kcap,rfl,_⟩:=hk.uni
 obtain⟨W1,hW1⟩:∃W1,w.alloc (.cells (msgA ⟨kd,q,du,rt,rf,bn,tp,tg,bd,ks⟩ (.slice ka ks.length kcap)) 63)=W1:=⟨_,rfl⟩
 have Hn:=box (show W1.heap[w.heap.size]? = some (.cells (msgA ⟨kd,q,du,rt,rf,bn,tp,tg,bd,ks⟩ (.slice ka ks.length kcap)) 63 (0,0)) by rw[←hW1];exact heap_new w _)
 have H0:=box (show Calm w W1 by rw[←hW1];exact(Calm.refl w).alloc _)
 have hn1:=box (num3 1 kd q rt (by decide) (by decide) (by show _<256;omega) (by show _<256;omega) (by show _<256;omega) W1 (by omega))
 have hn2:=box (fun W=>num3 6 bn du rf (by decide) (by decide) (by show _<281474976710656;omega) (by show _<281474976710656;omega) (by show _<281474976710656;omega) W (by omega))
 have htx:=box (fun W:World=>Text_any (.slice (some ⟨W.heap.size,0,none⟩) 3 3) [tp,tg,bd] (W.alloc (.cells #[.string tp,.string tg,.string bd] 9)) (.inr ⟨W.heap.size,0,3,rfl,fun k hk=>by
  rw[Nat.zero_add,cell_of (heap_new W _)]
  match k,hk with
  | 0,_=>rfl
  | 1,_=>rfl
  | 2,_=>rfl⟩) (by simp) (fun s hs=>by simp only[List.mem_cons,List.not_mem_nil,or_false]at hs;unfold maxLen;rcases hs with rfl|rfl|rfl<;>omega))
 have htb:textsB [tp,tg,bd]=(⟨(textsL [tp,tg,bd]).toArray⟩,0):=by
  unfold textsB
  rw[if_pos (by simp;omega)]
 rw[htb]at htx
 have z1:(⟨(low 1 kd++(low 1 q++low 1 rt)).toArray⟩:ByteArray).size=3:=by show (_:List UInt8).toArray.size=_;simp [low_length]
 have z2:(⟨(low 6 bn++(low 6 du++low 6 rf)).toArray⟩:ByteArray).size=18:=by show (_:List UInt8).toArray.size=_;simp [low_length]
 have z3:(⟨(textsL [tp,tg,bd]).toArray⟩:ByteArray).size≤300:=by show (_:List UInt8).toArray.size≤_;simp [textsL,textL_length];omega
 have z4:(⟨(low 1 ks.length++textsL ks).toArray⟩:ByteArray).size≤100:=by show (_:List UInt8).toArray.size≤_;simp [low_length];omega
 have hcat:=box (show (⟨(low 1 kd++(low 1 q++low 1 rt)).toArray⟩:ByteArray)++⟨(low 6 bn++(low 6 du++low 6 rf)).toArray⟩++⟨(textsL [tp,tg,bd]).toArray⟩++⟨(low 1 ks.length++textsL ks).toArray⟩=⟨(insideL ⟨kd,q,du,rt,rf,bn,tp,tg,bd,ks⟩).toArray⟩ from ba_ext (by rw[append_toList,append_toList,append_toList];simp [insideL,textsL]))
 obtain⟨a,ha⟩:∃a:ByteArray,⟨(low 1 kd++(low 1 q++low 1 rt)).toArray⟩=a:=⟨_,rfl⟩
 obtain⟨b,hb⟩:∃a:ByteArray,⟨(low 6 bn++(low 6 du++low 6 rf)).toArray⟩=a:=⟨_,rfl⟩
 obtain⟨c,hc⟩:∃a:ByteArray,⟨(textsL [tp,tg,bd]).toArray⟩=a:=⟨_,rfl⟩
 obtain⟨d,hd⟩:∃a:ByteArray,⟨(low 1 ks.length++textsL ks).toArray⟩=a:=⟨_,rfl⟩
 rw[ha]at hn1 z1 hcat
 rw[hb]at hn2 z2 hcat
 rw[hc]at htx z3 hcat
 rw[hd]at hlist z4 hcat
 rw[←hcat.out]
 clear ha hb hc hd hcat htb hlb hll hks hkl hk f1 f2 f3 f4 f5 f6 f7 f8 f9 f10 f11
 have c0:=cell_of Hn.out 0
 have c1:=cell_of Hn.out 1
 have c2:=cell_of Hn.out 2
 have c3:=cell_of Hn.out 3
 have c4:=cell_of Hn.out 4
 have c5:=cell_of Hn.out 5
 have c6:=cell_of Hn.out 6
 have c7:=cell_of Hn.out 7
 have c8:=cell_of Hn.out 8
 have c9:=cell_of Hn.out 9
 have hlt:=heap_lt Hn.out
 go_enter Tryz.func158,Tryz.ntmps158
 go_wp2_with fail
 clear hW1
 refine hn1.out.mono ?_
 rintro e w2 ⟨rfl,hc2⟩
 have J2:=box (heap_calm hc2 Hn.out)
 have C2:=box (H0.out.trans hc2)
 clear hc2 c0 c1 c2 c3 c4 c5 c6 c7 c8 c9 hlt
 have c0:=cell_of J2.out 0
 have c1:=cell_of J2.out 1
 have c2:=cell_of J2.out 2
 have c3:=cell_of J2.out 3
 have c4:=cell_of J2.out 4
 have c5:=cell_of J2.out 5
 have c6:=cell_of J2.out 6
 have c7:=cell_of J2.out 7
 have c8:=cell_of J2.out 8
 have c9:=cell_of J2.out 9
 have hlt:=heap_lt J2.out
 go_wp2_with fail
 refine(hn2.out _).mono ?_
 rintro e w3 ⟨rfl,hc3⟩
 have J3:=box (heap_calm hc3 J2.out)
 have C3:=box (C2.out.trans hc3)
 clear hc3 c0 c1 c2 c3 c4 c5 c6 c7 c8 c9 hlt
 have c0:=cell_of J3.out 0
 have c1:=cell_of J3.out 1
 have c2:=cell_of J3.out 2
 have c3:=cell_of J3.out 3
 have c4:=cell_of J3.out 4
 have c5:=cell_of J3.out 5
 have c6:=cell_of J3.out 6
 have c7:=cell_of J3.out 7
 have c8:=cell_of J3.out 8
 have c9:=cell_of J3.out 9
 have hlt:=heap_lt J3.out
 go_wp2_with fail
 refine(htx.out _).mono ?_
 rintro e w4 ⟨rfl,hc4⟩
 have hc4:=((Calm.refl w3).alloc (.cells #[.string tp,.string tg,.string bd] 9)).trans hc4
 have J4:=box (heap_calm hc4 J3.out)
 have C4:=box (C3.out.trans hc4)
 clear hc4 c0 c1 c2 c3 c4 c5 c6 c7 c8 c9 hlt
 have c0:=cell_of J4.out 0
 have c1:=cell_of J4.out 1
 have c2:=cell_of J4.out 2
 have c3:=cell_of J4.out 3
 have c4:=cell_of J4.out 4
 have c5:=cell_of J4.out 5
 have c6:=cell_of J4.out 6
 have c7:=cell_of J4.out 7
 have c8:=cell_of J4.out 8
 have c9:=cell_of J4.out 9
 have hlt:=heap_lt J4.out
 go_wp2_with fail
 refine(hlist.out _ C4.out).mono ?_
 rintro e w5 ⟨rfl,hc5⟩
 have C5:=box (C4.out.trans hc5)
 clear hc5
 go_wp2_with fail
 go_ret
 exact⟨rfl,C5.out⟩
end Go.Proofs.YtiahjipoofeliaaGreatDoor.rc
