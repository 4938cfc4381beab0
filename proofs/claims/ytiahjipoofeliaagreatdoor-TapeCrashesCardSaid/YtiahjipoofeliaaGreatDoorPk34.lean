/- Lemmas for this claim. -/
import Derived.Test.YtiahjipoofeliaaGreatDoorPk33
set_option maxRecDepth 100000
namespace Go.Proofs.YtiahjipoofeliaaGreatDoor.tp
open Go.RowKit
open dk sg
section
variable {D E:DiskS} {R R':RowS} {b:List UInt8} {c m:Nat}
structure ButB (D E:DiskS) (n s:ByteArray):Prop where
 this:E.bytes n=some s
 others:∀x,x≠n→E.bytes x=D.bytes x
theorem ButB.only {head:ByteArray} {k:Nat} (hk:k<100000000) {s:ByteArray} (h:ButB D E (nameB head k) s):Only D E head:=fun n hn=>h.others n (hn k hk)
theorem files_bytes (h:E.files=D.files) (n:ByteArray):E.bytes n=D.bytes n:=by unfold DiskS.bytes DiskS.find;rw[h]
theorem holds_eq (h:Holds D R b) (he:∀n,E.bytes n=D.bytes n):Holds E R b :=
 ⟨h.ok,h.size,fun i hi=>(he _).trans (h.segs i hi),fun k hk hh=>h.only k hk (by rw[bytes_has]at hh ⊢;rwa[he]at hh)⟩
theorem holds_put (h:Holds D R b) (h0:0<R.cnt) (s:ByteArray) (hs:R.fin+s.size≤R.stop) (h2:ButB D E (nameB R.head R.lastp) (laid (bA (segL b R.size (R.cnt-1))) (R.fin-R.lastp) s)):Holds E (R.grow s.size) (b++s.data.toList):=by
 have hl:=h.lastLen h0
 have hst:=RowOk.stop (R:=R) h0
 have hsz:=h.size
 have hls:=lastp_eq R
 have hbytes:=h.segs (R.cnt-1) (by omega)
 have hlp:R.lastp<100000000:=by have:=h.ok.least h0;omega
 have hlen:(segL b R.size (R.cnt-1)).length=R.fin-R.lastp:=by rw[seg_length];omega
 rw[←hls]at hbytes
 refine⟨h.ok.grow h0 hs,?_,fun i hi=>?_,fun k hk hh=>?_⟩
 ·show R.fin+s.size=R.start+(b++s.data.toList).length
  rw[List.length_append,size_toList,hsz];omega
 ·have hi:i<R.cnt:=hi
  show E.bytes (nameB R.head (R.start+i * R.size))=some (bA (segL (b++s.data.toList) R.size i))
  by_cases he:i=R.cnt-1
  ·subst he
   rw[←hls,h2.this]
   congr 1
   refine ba_ext ?_
   have hz:(bA (segL b R.size (R.cnt-1))).size=R.fin-R.lastp:=by rw[bA_size,hlen]
   rw[←hz,bytes_end,bA_list,bA_list,seg_last _ _ _ _ hl.1 (by rw[size_toList];omega)]
  ·have hlt:=plc_lt (size:=R.size) (show i<R.cnt-1 by omega)
   have hz:=h.ok.size
   have hpi:=(h.ok.place hi).2
   rw[h2.others _ (fun e=>by have:=name_inj (by omega) (by omega) e;omega),h.segs i hi,seg_append _ _ _ _ (by omega)]
 ·have hh:E.has (nameB R.head k)=true:=hh
  refine h.only k hk ?_
  rw[bytes_has]at hh ⊢
  by_cases he:k=R.lastp
  ·rw[he,hbytes];rfl
  ·rwa[h2.others _ (fun e=>he (name_inj hk hlp e))]at hh
theorem fresh_no (h:Holds D R b) (hf:R.isFresh=false) (hl:R.fin≤99999999):D.has (nameB R.head R.fin)=false:=by
 obtain⟨k1,k2⟩:=h.ok.fresh hf
 cases hx:D.has (nameB R.head R.fin)
 ·rfl
 ·have:=h.only R.fin (by omega) hx
  obtain⟨i,hi,e⟩:=mem_plc.1 this
  have h1:=plc_lt (size:=R.size) hi
  have h2:R.stop=R.start+R.cnt * R.size:=rfl
  have:=h.ok.size
  omega
theorem holds_fresh (h:Holds D R b) (hf:R.isFresh=false) (hl:R.fin≤99999999) (h2:ButB D E (nameB R.head R.fin) ⟨#[]⟩):Holds E R.more b:=by
 obtain⟨k1,k2⟩:=h.ok.fresh hf
 obtain⟨m1,m2⟩:=h.ok.more hf hl
 refine⟨m1,h.size,fun i hi=>?_,fun k hk hh=>?_⟩
 ·show E.bytes (nameB R.head (R.start+i * R.size))=some (bA (segL b R.size i))
  have hi:i<R.cnt+1:=hi
  have hst:R.stop=R.start+R.cnt * R.size:=rfl
  by_cases he:i=R.cnt
  ·subst he
   rw[←hst,←k1,h2.this]
   congr 1
   refine ba_ext ?_
   rw[bA_list]
   symm
   have hs:=h.size
   have:(segL b R.size R.cnt).length=0:=by rw[seg_length];omega
   exact List.eq_nil_of_length_eq_zero this
  ·have hpi:=(h.ok.place (k:=i) (by omega)).2
   have hlt:=plc_lt (size:=R.size) (show i<R.cnt by omega)
   have hz:=h.ok.size
   rw[h2.others _ (fun e=>by have:=name_inj (by omega) (by omega) e;omega)]
   exact h.segs i (by omega)
 ·have hh':E.has (nameB R.head k)=true:=hh
  show k∈plc R.start R.size (R.cnt+1)
  rw[plc_snoc]
  by_cases he:k=R.fin
  ·refine List.mem_append_right _ ?_
   rw[List.mem_singleton,he,k1];rfl
  ·refine List.mem_append_left _ (h.only k hk ?_)
   rw[bytes_has]at hh' ⊢
   rwa[h2.others _ (fun e=>he (name_inj hk (by omega) e))]at hh'
theorem burn_cases (D:DiskS):(D.burns=true∧D.burn.files=D.files∧D.burn.waits=D.waits∧D.burn.cap=D.cap∧D.burn.down=true)∨(D.burns=false∧D.burn.files=D.files∧D.burn.waits=D.waits∧D.burn.cap=D.cap∧D.burn.down=D.down):=by
 unfold DiskS.burns DiskS.burn
 by_cases h0:D.left=0
 ·left;rw[if_pos h0];exact⟨by simp [h0],rfl,rfl,rfl,rfl⟩
 ·right
  rw[if_neg h0]
  split<;>exact⟨by simp [h0],rfl,rfl,rfl,rfl⟩
structure Made (D E:DiskS) (n:ByteArray) (blk:Nat):Prop where
 files:E.files=D.files++[⟨n,blk,⟨#[]⟩,⟨#[]⟩⟩]
 waits:E.waits=D.waits
 cap:E.cap=D.cap
 down:E.down=false
structure Grew (D E:DiskS) (n:ByteArray) (f:FileS) (t:ByteArray):Prop where
 find:D.find n=some f
 files:E.files=D.files.map fun x=>if x.name=n then { x with now:=laid x.now f.now.size t } else x
 waits:E.waits=D.waits++[⟨f.blk,f.now.size,t⟩]
 cap:E.cap=D.cap
 down:E.down=false
structure Fell (D E:DiskS):Prop where
 files:E.files=D.files
 waits:E.waits=D.waits
 cap:E.cap=D.cap
 down:E.down=true
theorem create_gen {n:ByteArray} (hno:D.has n=false) (blk:Nat):(∃E,D.create n blk=(8,E)∧Fell D E∧¬Alive D)∨(∃E,D.create n blk=(0,E)∧Made D E n blk∧(Alive D→Alive E)):=by
 unfold DiskS.create
 by_cases hd:D.down=true
 ·rw[if_pos hd]
  exact .inl ⟨D,rfl,⟨rfl,rfl,rfl,hd⟩,fun h=>by rw[h.down]at hd;cases hd⟩
 ·rw[if_neg hd,if_neg (by rw[hno];decide)]
  unfold DiskS.doing
  rcases burn_cases D with ⟨h1,h2,h3,h4,h5⟩|⟨h1,h2,h3,h4,h5⟩
  ·rw[if_pos h1]
   exact .inl ⟨_,rfl,⟨h2,h3,h4,h5⟩,fun h=>by rw[h.burns]at h1;cases h1⟩
  ·rw[if_neg (by rw[h1];decide)]
   refine .inr ⟨_,rfl,⟨by show D.burn.files++_=_;rw[h2],h3,h4,by rw[←h5]at hd;simpa using hd⟩,fun h=>?_⟩
   rw[h.burn]
   exact⟨h.left,h.down⟩
theorem write_gen {n:ByteArray} {f:FileS} (hf:D.find n=some f) (t:ByteArray) (ht:t.size≠0) (hroom:D.down=false→(t.size:Int)≤D.cap-D.size):(∃E,D.write n (f.now.size:Int) t=(8,E)∧Fell D E∧¬Alive D)∨(∃E,D.write n (f.now.size:Int) t=(0,E)∧Grew D E n f t∧(Alive D→Alive E)):=by
 unfold DiskS.write
 by_cases hd:D.down=true
 ·rw[if_pos hd]
  exact .inl ⟨D,rfl,⟨rfl,rfl,rfl,hd⟩,fun h=>by rw[h.down]at hd;cases hd⟩
 ·have hr:=hroom (by simpa using hd)
  rw[if_neg hd,hf]
  simp only
  rw[if_neg (by omega),if_neg (by omega)]
  unfold DiskS.doing
  rcases burn_cases D with ⟨h1,h2,h3,h4,h5⟩|⟨h1,h2,h3,h4,h5⟩
  ·rw[if_pos h1]
   exact .inl ⟨_,rfl,⟨h2,h3,h4,h5⟩,fun h=>by rw[h.burns]at h1;cases h1⟩
  ·rw[if_neg (by rw[h1];decide)]
   dsimp only
   rw[if_neg ht]
   refine .inr ⟨_,rfl,⟨hf,?_,?_,h4,show D.burn.down=false by rw[h5];simpa using hd⟩,fun h=>?_⟩
   ·show D.burn.files.map _=_
    rw[h2];rfl
   ·show D.burn.waits++_=_
    rw[h3];rfl
   ·rw[h.burn]
    exact⟨h.left,h.down⟩
theorem Fell.bytes (h:Fell D E) (n:ByteArray):E.bytes n=D.bytes n:=files_bytes h.files n
theorem Fell.form (h:Fell D E) (hF:dk.Form D):dk.Form E:=⟨by rw[h.files];exact hF.names,by rw[h.files];exact hF.blks,by rw[h.files,h.waits];exact hF.live⟩
theorem Made.but {n:ByteArray} {blk:Nat} (h:Made D E n blk) (hno:D.has n=false):ButB D E n ⟨#[]⟩:=by
 have hf:D.find n=none:=by unfold DiskS.has at hno;cases hx:D.find n;rfl;rw[hx]at hno;cases hno
 refine⟨?_,fun x hx=>?_⟩
 ·unfold DiskS.bytes DiskS.find at *
  rw[h.files,List.find?_append,hf];simp
 ·unfold DiskS.bytes DiskS.find
  rw[h.files,List.find?_append]
  cases hg:D.files.find? (fun f:FileS=>decide (f.name=x)) with
  | some g=>rfl
  | none=>simp [Ne.symm hx]
theorem Made.form {n:ByteArray} {blk:Nat} (h:Made D E n blk) (hF:dk.Form D) (hno:D.has n=false) (hb:∀f∈D.files,f.blk≠blk):dk.Form E:=form_create hF hno hb h.files h.waits
theorem Made.size {n:ByteArray} {blk:Nat} (h:Made D E n blk):E.size=D.size:=by
 unfold DiskS.size total
 rw[h.files,List.map_append,List.foldr_append];rfl
theorem Grew.turn {n t:ByteArray} {f:FileS} (h:Grew D E n f t):E.files=(D.turn n fun x=>{ x with now:=laid x.now f.now.size t }).files:=h.files
theorem Grew.but {n t:ByteArray} {f:FileS} (h:Grew D E n f t) (hF:dk.Form D):ButB D E n (laid f.now f.now.size t):=by
 refine⟨?_,fun x hx=>?_⟩
 ·rw[files_bytes h.turn]
  show ((D.turn n _).find n).map _=_
  rw[find_turn_same hF h.find (fun x=>{ x with now:=laid x.now f.now.size t }) (fun _=>rfl)];rfl
 ·rw[files_bytes h.turn]
  show ((D.turn n _).find x).map _=_
  rw[find_turn_other (Ne.symm hx) (fun x=>{ x with now:=laid x.now f.now.size t }) (fun _=>rfl)];rfl
theorem Grew.form {n t:ByteArray} {f:FileS} (h:Grew D E n f t) (hF:dk.Form D):dk.Form E:=by
 have e1:E.files.map (·.name)=D.files.map (·.name):=by
  rw[h.files,List.map_map]
  exact List.map_congr_left (fun x _=>by simp only[Function.comp];split<;>rfl)
 have e2:E.files.map (·.blk)=D.files.map (·.blk):=by
  rw[h.files,List.map_map]
  exact List.map_congr_left (fun x _=>by simp only[Function.comp];split<;>rfl)
 refine⟨by rw[e1];exact hF.names,by rw[e2];exact hF.blks,fun x hx=>?_⟩
 have hmem:x.blk∈D.files.map (·.blk):=by
  rw[h.waits]at hx
  rcases List.mem_append.1 hx with hx|hx
  ·obtain⟨g,hg,e⟩:=hF.live x hx
   exact List.mem_map.2 ⟨g,hg,e⟩
  ·rw[List.mem_singleton]at hx
   subst hx
   exact List.mem_map.2 ⟨f,(find_some h.find).1,rfl⟩
 rw[←e2]at hmem
 obtain⟨g,hg,e⟩:=List.mem_map.1 hmem
 exact⟨g,hg,e⟩
theorem Grew.size {n t:ByteArray} {f:FileS} (h:Grew D E n f t) (hF:dk.Form D):E.size=D.size+t.size:=by
 obtain⟨A,a1,a2,a3,a4,a5⟩:∃A:DiskS,A.files=D.files∧A.waits=D.waits∧A.left = -1∧A.down=false∧A.cap=((D.size+t.size:Nat):Int):=⟨⟨-1,false,((D.size+t.size:Nat):Int),D.files,D.waits⟩,rfl,rfl,rfl,rfl,rfl⟩
 have hA:Alive A:=⟨a3,a4⟩
 have hFA:dk.Form A:=⟨by rw[a1];exact hF.names,by rw[a1];exact hF.blks,by rw[a1,a2];exact hF.live⟩
 have hfA:A.find n=some f:=by unfold DiskS.find;rw[a1];exact h.find
 have hsA:A.size=D.size:=by unfold DiskS.size;rw[a1]
 obtain⟨G,g1,g2,g3⟩:=write_but hA hFA (n:=n) (s:=f.now) (by unfold DiskS.bytes;rw[hfA];rfl) f.now.size t (Nat.le_refl _) (by rw[a5,hsA];omega)
 by_cases ht:t.size=0
 ·have:E.size=D.size+0:=by
   have hx:∀x:ByteArray,laid x f.now.size t=x:=fun x=>by
    unfold laid laidL
    have:t.data.toList=[]:=List.eq_nil_of_length_eq_zero (by rw[size_toList];exact ht)
    rw[this,if_pos rfl]
   have e3:E.files.map (fun f=>f.now.size)=D.files.map (fun f=>f.now.size):=by
    rw[h.files,List.map_map]
    refine List.map_congr_left (fun x _=>?_)
    simp only[Function.comp]
    split
    ·rw[hx]
    ·rfl
   unfold DiskS.size total
   rw[e3];rfl
  rw[this,ht]
 ·have e:E.files=G.files:=by
   unfold DiskS.write at g1
   rw[hA.down,hfA]at g1
   simp only[Int.toNat_natCast]at g1
   rw[if_neg (by decide),if_neg (by omega),if_neg (by rw[a5,hsA];omega),hA.doing,if_neg ht]at g1
   cases g1
   rw[h.files]
   show _=A.files.map _
   rw[a1]
  have:E.size=G.size:=by unfold DiskS.size;rw[e]
  rw[this,g3,hsA];omega
structure Kin (R R':RowS):Prop where
 head:R'.head=R.head
 size:R'.size=R.size
 start:R'.start=R.start
 synced:R'.synced=R.synced
structure AppOk (D:DiskS) (R:RowS) (b:List UInt8) (s:ByteArray) (E:DiskS) (R':RowS):Prop where
 holds:Holds E R' (b++s.data.toList)
 kin:Kin R R'
 fin:R'.fin=R.fin+s.size
 tight:Tight R'
 cnt:0<R'.cnt
 form:dk.Form E
 cap:E.cap=D.cap
 only:Only D E R.head
 down:D.down=false∧E.down=false
 few:E.files.length≤D.files.length+1
 names:(∀f∈D.files,f.name.size≤1000)→∀f∈E.files,f.name.size≤1000
 size:E.size=D.size+s.size
 alive:Alive D→Alive E
 wk:∀ps sf q,bA q.list=s→Wk D R ps sf→Wk E R' (ps++[q]) sf
structure AppNo (D:DiskS) (R:RowS) (b:List UInt8) (E:DiskS) (R':RowS):Prop where
 holds:Holds E R' b
 kin:Kin R R'
 fin:R'.fin=R.fin
 form:dk.Form E
 cap:E.cap=D.cap
 only:Only D E R.head
 down:E.down=true
 few:E.files.length≤D.files.length+1
 names:(∀f∈D.files,f.name.size≤1000)→∀f∈E.files,f.name.size≤1000
 dead:¬Alive D
 wk:∀ps sf,Wk D R ps sf→Wk E R' ps sf
 size:E.size=D.size
theorem Made.few {n:ByteArray} {blk:Nat} (h:Made D E n blk) (hn:n.size≤1000):E.files.length≤D.files.length+1∧((∀f∈D.files,f.name.size≤1000)→∀f∈E.files,f.name.size≤1000):=by
 rw[h.files]
 refine⟨by simp,fun hx f hf=>?_⟩
 rcases List.mem_append.1 hf with hf|hf
 ·exact hx f hf
 ·rw[List.mem_singleton]at hf;subst hf;exact hn
theorem Grew.few {n t:ByteArray} {f:FileS} (h:Grew D E n f t):E.files.length=D.files.length∧((∀f∈D.files,f.name.size≤1000)→∀f∈E.files,f.name.size≤1000):=by
 rw[h.files]
 refine⟨by simp,fun hx g hg=>?_⟩
 obtain⟨y,hy,rfl⟩:=List.mem_map.1 hg
 split
 ·exact hx y hy
 ·exact hx y hy
theorem put_gen (h:Holds D R b) (hF:dk.Form D) (h0:0<R.cnt) (s:ByteArray) (hs0:s.size≠0) (hs:R.fin+s.size≤R.stop) (hroom:D.down=false→(s.size:Int)≤D.cap-D.size) :
  (∃E,putD D R s=((0,8),E,R)∧Fell D E∧¬Alive D)∨(∃E f,putD D R s=(((R.fin:Int),0),E,R.grow s.size)∧Grew D E (nameB R.head R.lastp) f s∧(Alive D→Alive E)∧Holds E (R.grow s.size) (b++s.data.toList)):=by
 have hl:=h.lastLen h0
 have hst:=RowOk.stop (R:=R) h0
 have hsz:=h.size
 have hls:=lastp_eq R
 have hbytes:=h.segs (R.cnt-1) (by omega)
 have hlen:(segL b R.size (R.cnt-1)).length=R.fin-R.lastp:=by rw[seg_length];omega
 rw[←hls]at hbytes
 obtain⟨f,hf,hfn⟩:=bytes_some hbytes
 have hfz:f.now.size=R.fin-R.lastp:=by rw[hfn,bA_size,hlen]
 have hw:=write_gen hf s hs0 hroom
 rw[hfz]at hw
 unfold putD
 rcases hw with ⟨E,h1,h2,h3⟩|⟨E,h1,h2,h3⟩
 ·rw[h1]
  exact .inl ⟨E,rfl,h2,h3⟩
 ·rw[h1]
  refine .inr ⟨E,f,rfl,h2,h3,holds_put h h0 s hs ?_⟩
  have:=h2.but hF
  rw[hfn]at this
  rw[←hfn,hfz,hfn]at this
  exact this
theorem append_gen (h:Holds D R b) (hF:dk.Form D) (s:ByteArray) (hs:s.size≠0) (hr:s.size≤R.room) (hroom:D.down=false→(s.size:Int)≤D.cap-D.size) (hl:R.fin≤99999999) (hh:R.head.size≤900) (blk:Nat) (hb:∀f∈D.files,f.blk≠blk) :
  (∃E R',appendD D R s blk=((0,8),E,R')∧AppNo D R b E R')∨(∃E R',appendD D R s blk=(((R.fin:Int),0),E,R')∧AppOk D R b s E R'):=by
 have hA:∀(x:Int×DiskS×RowS),freshD D R blk=x→appendD D R s blk=if x.1≠0 then ((0,x.1),x.2) else putD x.2.1 x.2.2 s:=fun x hx=>by
  unfold appendD
  rw[if_neg (by omega),if_neg (fun hc=>by have:=hroom hc.2;omega),hx]
 by_cases hf:R.isFresh=true
 ·have h0:=isFresh_cnt h.ok hf
  have hfr:freshD D R blk=(0,D,R):=by unfold freshD;rw[if_pos hf]
  have hsp:R.room≤R.stop-R.fin:=by
   have:=(fresh_ok h.ok D blk).2 (by rw[hfr])
   rw[hfr]at this
   exact this.2.2
  have hfin:=h.ok.fin h0
  have hlp:R.lastp<100000000:=by have:=h.ok.least h0;omega
  rw[hA _ hfr]
  simp only
  rw[if_neg (by decide)]
  rcases put_gen h hF h0 s hs (by omega) hroom with ⟨E,e1,e2,e3⟩|⟨E,f,e1,e2,e3,e4⟩
  ·exact .inl ⟨E,R,e1,holds_eq h e2.bytes,⟨rfl,rfl,rfl,rfl⟩,rfl,e2.form hF,e2.cap,fun n _=>e2.bytes n,e2.down,by rw[e2.files];omega,fun hx f hf=>hx f (by rwa[e2.files]at hf),e3,fun ps sf hw=>hw.same e2.files e2.waits rfl rfl rfl rfl,by unfold DiskS.size;rw[e2.files]⟩
  ·refine .inr ⟨E,_,e1,e4,⟨rfl,rfl,rfl,rfl⟩,rfl,.inr ?_,h0,e2.form hF,e2.cap,(e2.but hF).only hlp,⟨?_,e2.down⟩,by rw[e2.few.1];omega,e2.few.2,e2.size hF,e3,fun ps sf q hq hw=>hw.grew hF h0 (fun i hi=>by have:=(h.ok.place hi).2;omega) (by have:=h.ok.size;omega) e2.find (by rw[hq];exact e2.files) (by rw[hq];exact e2.waits) rfl rfl rfl rfl⟩
   ·show R.lastp<R.fin+s.size
    omega
   ·cases hd:D.down with
    | false=>rfl
    | true =>
     exfalso
     unfold putD DiskS.write at e1
     rw[hd]at e1
     simp at e1
 ·have hf:R.isFresh=false:=by simpa using hf
  have hno:=fresh_no h hf hl
  obtain⟨k1,k2⟩:=h.ok.fresh hf
  obtain⟨m1,m2⟩:=h.ok.more hf hl
  have hst:=RowOk.stop (R:=R.more) (Nat.succ_pos _)
  have hroom2:=h.ok.room
  have x1:R.more.size=R.size:=rfl
  have x2:R.more.fin=R.fin:=rfl
  have hn1:(nameB R.head R.fin).size≤1000:=by rw[name_size];omega
  rcases create_gen hno blk with ⟨E,c1,c2,c3⟩|⟨E,c1,c2,c3⟩
  ·have hfr:freshD D R blk=(8,E,R):=by unfold freshD;rw[if_neg (by rw[hf];decide),if_neg (by omega),c1];rfl
   rw[hA _ hfr]
   exact .inl ⟨E,R,rfl,holds_eq h c2.bytes,⟨rfl,rfl,rfl,rfl⟩,rfl,c2.form hF,c2.cap,fun n _=>c2.bytes n,c2.down,by rw[c2.files];omega,fun hx f hf=>hx f (by rwa[c2.files]at hf),c3,fun ps sf hw=>hw.same c2.files c2.waits rfl rfl rfl rfl,by unfold DiskS.size;rw[c2.files]⟩
  ·have hfr:freshD D R blk=(0,E,R.more):=by unfold freshD;rw[if_neg (by rw[hf];decide),if_neg (by omega),c1];rfl
   have hE:=holds_fresh h hf hl (c2.but hno)
   have hFE:=c2.form hF hno hb
   have hmade:∀ps sf,Wk D R ps sf→Wk E R.more ps sf:=fun ps sf hw=>hw.made hF hb (show nameB R.head R.fin=_ by rw[k1];rfl) hno (by rw[show R.start+R.cnt * R.size=R.stop from rfl,←k1];omega) c2.files c2.waits rfl rfl rfl rfl (by have:=h.ok.size;omega)
   have hdd:D.down=false:=by
    cases hd:D.down with
    | false=>rfl
    | true =>
     exfalso
     unfold DiskS.create at c1
     rw[hd]at c1
     simp at c1
   rw[hA _ hfr]
   simp only
   rw[if_neg (by decide)]
   rcases put_gen hE hFE (Nat.succ_pos _) s hs (by omega) (fun _=>by rw[c2.cap,c2.size];exact hroom hdd) with ⟨G,e1,e2,e3⟩|⟨G,f,e1,e2,e3,e4⟩
   ·exact .inl ⟨G,R.more,e1,holds_eq hE e2.bytes,⟨rfl,rfl,rfl,rfl⟩,rfl,e2.form hFE,e2.cap.trans c2.cap,fun n hn=>(e2.bytes n).trans ((c2.but hno).only (by omega) n hn),e2.down,by rw[e2.files];exact(c2.few hn1).1,fun hx f hf=>(c2.few hn1).2 hx f (by rwa[e2.files]at hf),fun ha=>e3 (c3 ha),fun ps sf hw=>(hmade ps sf hw).same e2.files e2.waits rfl rfl rfl rfl,by rw[←c2.size];unfold DiskS.size;rw[e2.files]⟩
   ·refine .inr ⟨G,_,e1,e4,⟨rfl,rfl,rfl,rfl⟩,rfl,.inr ?_,Nat.succ_pos _,e2.form hFE,e2.cap.trans c2.cap,((c2.but hno).only (by omega)).trans ((e2.but hFE).only (by have:=m1.least (Nat.succ_pos _);omega)),⟨hdd,e2.down⟩,by rw[e2.few.1];exact(c2.few hn1).1,fun hx=>e2.few.2 ((c2.few hn1).2 hx),by rw[e2.size hFE,c2.size],fun ha=>e3 (c3 ha),fun ps sf q hq hw=>(hmade ps sf hw).grew hFE (Nat.succ_pos _) (fun i hi=>by have:=(hE.ok.place hi).2;omega) (by have:=hE.ok.size;omega) e2.find (by rw[hq];exact e2.files) (by rw[hq];exact e2.waits) rfl rfl rfl rfl⟩
    show R.more.lastp<R.fin+s.size
    omega
end
end Go.Proofs.YtiahjipoofeliaaGreatDoor.tp

namespace Go.Proofs.YtiahjipoofeliaaGreatDoor.tp
open Go.ChangeShapes Go.WideShapes Go.ChangeAt Go.RowKit Go.ChangeMaps
open rc oc cr dk sg
structure Tp (W:World) (t p n:Nat) (S:TS) (G:Nat→Prop) (w:World):Prop where
 at_:∃r sb mb F v iv,TpIn W w t p n r sb mb S.D S.R S.recs S.last F v iv∧∀b,G b↔tfoot t r sb mb F v iv b
 holds:Holds S.D S.R (flat S.ps)
 fit:FitL S.R.start S.ps
 size:S.R.size=1024
 head:S.R.head=tapeN
 born:BornIs S.recs S.last
section
variable {W w w':World} {t p n r sb mb:Nat} {D D':DiskS} {R R':RowS} {L:List (Nat×MsgS)} {last:Int} {F F' G G':Nat→Prop} {v v' iv:Value} {S S':TS} {b:List UInt8}
theorem Step.iff {F G F' G':Nat→Prop} {w w':World} (h:Step F w G w') (hF:∀b,F' b↔F b) (hG:∀b,G' b↔G b):Step F' w G' w' :=
 ⟨h.keeps.mono (fun b _ hb=>(hF b).2 hb),fun b hb=>(h.foot b ((hG b).1 hb)).elim (fun x=>.inl ((hF b).2 x)) .inr⟩
theorem Tp.calm (h:Tp W t p n S G w) (hc:Calm w w'):Tp W t p n S G w':=by
 obtain⟨r,sb,mb,F,v,iv,h1,h2⟩:=h.at_
 exact⟨⟨r,sb,mb,F,v,iv,h1.calm hc,h2⟩,h.holds,h.fit,h.size,h.head,h.born⟩
theorem Tp.lt (h:Tp W t p n S G w):∀b,G b→b<w.heap.size:=fun b hb=>by
 obtain⟨r,sb,mb,F,v,iv,h1,h2⟩:=h.at_
 exact h1.lt b ((h2 b).1 hb)
theorem Tp.owns (h:Tp W t p n S G w):Calm W w:=by
 obtain⟨r,sb,mb,F,v,iv,h1,h2⟩:=h.at_
 exact h1.seg.calm
theorem Tp.mono (h:Tp W t p n S G w) {m:Nat} (hm:n≤m):Tp W t p m S G w:=by
 obtain⟨r,sb,mb,F,v,iv,h1,h2⟩:=h.at_
 exact⟨⟨r,sb,mb,F,v,iv,⟨h1.seg.mono hm,h1.obj,h1.sums,h1.ids,h1.sizes,h1.apart,h1.mF,h1.tW,h1.sW,h1.mW⟩,h2⟩,h.holds,h.fit,h.size,h.head,h.born⟩
theorem Tp.end_ok (h:Tp W t p n S G w):S.R.fin%1024=0∨S.R.fin%1024+3≤1024:=by
 have h1:=h.holds.ok.mod
 rw[h.size]at h1
 rw[h.holds.size]
 exact fit_end S.ps S.R.start h.fit (.inl h1)
theorem Tp.rises (h:Tp W t p n S G w):Rises S.recs:=recs_rise S.ps _ h.fit
theorem recs_length:∀(ps:List Pc) (a:Nat),(recs a ps).length≤ps.length
 | [],_=>Nat.le_refl _
 | .fill n :: ps,a=>Nat.le_trans (recs_length ps _) (by simp)
 | .one m :: ps,a=>by
  show (recs _ ps).length+1≤_
  have:=recs_length ps (a+(Pc.one m).len)
  simp;omega
theorem flat_least:∀(ps:List Pc) (a:Nat),FitL a ps→3 * ps.length≤(flat ps).length
 | [],_,_=>Nat.le_refl _
 | p :: ps,a,h=>by
  have h1:=flat_least ps _ h.2
  have h2:=h.1.1
  rw[flat_len_cons,List.length_cons]
  omega
theorem Tp.few (h:Tp W t p n S G w):S.ps.length≤S.R.fin∧S.recs.length≤S.R.fin:=by
 have h1:=flat_least S.ps _ h.fit
 have h2:=recs_length S.ps S.R.start
 have h3:=h.holds.size
 refine⟨by omega,?_⟩
 show (recs S.R.start S.ps).length≤_
 omega
def RowApp (W:World) (t p n r sb mb:Nat) (D:DiskS) (R:RowS) (L:List (Nat×MsgS)) (last:Int) (F:Nat→Prop) (v iv:Value) (b:List UInt8) (s:ByteArray) (w:World) (e:Ending) (w':World):Prop :=
 ∃E R' F' v',TpIn W w' t p (n+1) r sb mb E R' L last F' v' iv∧Step (tfoot t r sb mb F v iv) w (tfoot t r sb mb F' v' iv) w' ∧
  ((e=.returned (.tuple #[.int .i64 0,.int .i64 8])∧AppNo D R b E R')∨(e=.returned (.tuple #[.int .i64 (R.fin:Int),.int .i64 0])∧AppOk D R b s E R'))
theorem row_append (h:TpIn W w t p n r sb mb D R L last F v iv) (hH:Holds D R b) (s:ByteArray) (hs:s.size≠0) (hr:s.size≤R.room) (hroom:D.down=false→(s.size:Int)≤D.cap-D.size) (hl:R.fin≤99999999) (hh:R.head=tapeN) (hn:n≤999990) :
  Calls Tryz.prog 44 #[ptrTo r,.string s] w (RowApp W t p n r sb mb D R L last F v iv b s w):=by
 have h0:=hH.ok.room
 have h00:=hH.ok.size
 refine(Append_any s w h.seg hn (by omega)).mono ?_
 rintro e w' ⟨blk,F',v',hbk,rfl,hS,hT⟩
 have hb:∀f∈D.files,f.blk≠blk:=fun f hf e=>by
  have:F f.blk:=by obtain⟨mb,wv,h1,rfl⟩:=h.seg.disk.lies;exact .inr (.inr (.inr (List.mem_map.2 ⟨f,hf,rfl⟩)))
  have:=h.seg.disk.foot_lt _ this
  omega
 rcases append_gen hH h.seg.disk.form s hs hr hroom hl (by rw[hh];decide) blk hb with ⟨E,R',e1,e2⟩|⟨E,R',e1,e2⟩
 ·rw[e1]at hS ⊢
  exact⟨E,R',F',v',h.step hS hT,h.foot_step hT,.inl ⟨rfl,e2⟩⟩
 ·rw[e1]at hS ⊢
  exact⟨E,R',F',v',h.step hS hT,h.foot_step hT,.inr ⟨rfl,e2⟩⟩
structure TpDone (S:TS) (m:MsgS) (S':TS):Prop where
 ps:S'.ps=S.ps++laidP S.R.fin m
 last:S'.last=m.born
 kin:Kin S.R S'.R
 fin:S'.R.fin=S.R.fin+costP S.R.fin m
 tight:Tight S'.R
 cnt:0<S'.R.cnt
 cap:S'.D.cap=S.D.cap
 only:Only S.D S'.D tapeN
 down:S'.D.down=false
 few:S'.D.files.length≤S.D.files.length+2
 names:(∀f∈S.D.files,f.name.size≤1000)→∀f∈S'.D.files,f.name.size≤1000
 size:S'.D.size=S.D.size+costP S.R.fin m
 alive:Alive S.D→Alive S'.D
 wk:∀sf,Wk S.D S.R S.ps sf→Wk S'.D S'.R S'.ps sf
structure TpFell (S:TS) (m:MsgS) (S':TS):Prop where
 ps:S'.ps=S.ps∨(¬goesIn S.R.fin (recB m).size∧S'.ps=S.ps++[.fill (roomAt S.R.fin)])
 last:S'.last=S.last
 kin:Kin S.R S'.R
 cap:S'.D.cap=S.D.cap
 only:Only S.D S'.D tapeN
 down:S'.D.down=true
 few:S'.D.files.length≤S.D.files.length+2
 names:(∀f∈S.D.files,f.name.size≤1000)→∀f∈S'.D.files,f.name.size≤1000
 dead:¬Alive S.D
 wk:∀sf,Wk S.D S.R S.ps sf→Wk S'.D S'.R S'.ps sf
 size:S'.D.size≤S.D.size+costP S.R.fin m
def AppT (S:TS) (m:MsgS) (e:Ending) (S':TS):Prop :=
 (¬okM m∧e=.returned (.tuple #[.int .i64 0,.int .i64 1])∧S'=S) ∨
 (okM m∧S.D.down=true∧e=.returned (.tuple #[.int .i64 0,.int .i64 8])∧S'=S) ∨
 (okM m∧S.D.down=false∧S.D.cap-S.D.size<(costP S.R.fin m:Int)∧e=.returned (.tuple #[.int .i64 0,.int .i64 7])∧S'=S) ∨
 (okM m∧S.D.down=false∧(costP S.R.fin m:Int)≤S.D.cap-S.D.size∧e=.returned (.tuple #[.int .i64 0,.int .i64 8])∧TpFell S m S') ∨
 (okM m∧S.D.down=false∧(costP S.R.fin m:Int)≤S.D.cap-S.D.size∧e=.returned (.tuple #[.int .i64 (idP S.R.fin m:Int),.int .i64 0])∧TpDone S m S')
def AppDone (W:World) (t p n:Nat) (S:TS) (m:MsgS) (G:Nat→Prop) (w:World) (e:Ending) (w':World):Prop :=
 ∃S' G',Tp W t p (n+2) S' G' w'∧Step G w G' w'∧AppT S m e S'
theorem AppDone.same (h:Tp W t p n S G w) (hc:Calm w w') {m:MsgS} {e:Ending} (ha:AppT S m e S):AppDone W t p n S m G w e w' :=
 ⟨S,G,(h.calm hc).mono (by omega),Step.of_calm hc,ha⟩
end
section
variable {W w w':World} {t p n r sb mb:Nat} {D D':DiskS} {R R':RowS} {L:List (Nat×MsgS)} {last:Int} {F F' G G':Nat→Prop} {v v' iv:Value} {S S':TS} {b:List UInt8}
theorem cost_laid {e:Nat} {m:MsgS} (h:okM m):costP e m=(flat (laidP e m)).length:=by unfold costP;rw[if_pos h]
theorem bA_back (s:ByteArray):bA s.data.toList=s:=ba_ext (bA_list _)
theorem Kin.trans {A B C:RowS} (h:Kin A B) (g:Kin B C):Kin A C:=⟨g.head.trans h.head,g.size.trans h.size,g.start.trans h.start,g.synced.trans h.synced⟩
theorem done_one {m:MsgS} {k:Nat} (h:Tp W t p n S G w) (hok:okM m) (hg:goesIn S.R.fin (recB m).size) (hd:S.D.down=false) (hroom:(costP S.R.fin m:Int)≤S.D.cap-S.D.size) (hk:k≤n+2)
  (hT:TpIn W w' t p k r sb mb D' R' (S.recs++[(S.R.fin,m)]) m.born F' v' iv) (hA:AppOk S.D S.R (flat S.ps) (recB m) D' R') (hS:Step G w (tfoot t r sb mb F' v' iv) w'):AppDone W t p n S m G w (.returned (.tuple #[.int .i64 (S.R.fin:Int),.int .i64 0])) w':=by
 have he:=h.end_ok
 have hsz:=h.holds.size
 have hp:laidP S.R.fin m=[.one m]:=by unfold laidP;rw[if_pos hg]
 have hc:costP S.R.fin m=(recB m).size:=by rw[cost_laid hok,laid_len he,if_pos hg]
 have hid:idP S.R.fin m=S.R.fin:=by unfold idP;rw[if_pos hg]
 have hr:recs R'.start (S.ps++[.one m])=S.recs++[(S.R.fin,m)]:=by
  rw[hA.kin.start,recs_one,hsz];rfl
 refine⟨⟨D',R',S.ps++[.one m],m.born⟩,tfoot t r sb mb F' v' iv,⟨⟨r,sb,mb,F',v',iv,?_,fun b=>Iff.rfl⟩,?_,?_,hA.kin.size.trans h.size,hA.kin.head.trans h.head,?_⟩,hS,.inr (.inr (.inr (.inr ⟨hok,hd,hroom,by rw[hid],?_⟩)))⟩
 ·show TpIn W w' t p (n+2) r sb mb D' R' (recs R'.start (S.ps++[.one m])) m.born F' v' iv
  rw[hr]
  exact⟨hT.seg.mono hk,hT.obj,hT.sums,hT.ids,hT.sizes,hT.apart,hT.mF,hT.tW,hT.sW,hT.mW⟩
 ·show Holds D' R' (flat (S.ps++[.one m]))
  rw[flat_snoc]
  exact hA.holds
 ·show FitL R'.start (S.ps++[.one m])
  rw[hA.kin.start,fitL_snoc,←hsz]
  exact⟨h.fit,one_fit hok hg⟩
 ·show BornIs (recs R'.start (S.ps++[.one m])) m.born
  rw[hr]
  exact BornIs.snoc _ _
 ·exact⟨by rw[hp],rfl,hA.kin,by rw[hc];exact hA.fin,hA.tight,hA.cnt,hA.cap,by rw[←h.head];exact hA.only,hA.down.2,by have:=hA.few;simp only;omega,hA.names,by rw[hc];exact hA.size,hA.alive,fun sf hw=>hA.wk S.ps sf (.one m) (bA_back _) hw⟩
theorem done_two {m:MsgS} {k:Nat} {D1:DiskS} {R1:RowS} (h:Tp W t p n S G w) (hok:okM m) (hg:¬goesIn S.R.fin (recB m).size) (hd:S.D.down=false) (hroom:(costP S.R.fin m:Int)≤S.D.cap-S.D.size) (hk:k≤n+2)
  (hA1:AppOk S.D S.R (flat S.ps) (fillB (roomAt S.R.fin)) D1 R1) (hT:TpIn W w' t p k r sb mb D' R' (S.recs++[(R1.fin,m)]) m.born F' v' iv) (hA:AppOk D1 R1 (flat (S.ps++[.fill (roomAt S.R.fin)])) (recB m) D' R') (hS:Step G w (tfoot t r sb mb F' v' iv) w'):AppDone W t p n S m G w (.returned (.tuple #[.int .i64 (R1.fin:Int),.int .i64 0])) w':=by
 have he:=h.end_ok
 have hsz:=h.holds.size
 have hrm:3≤roomAt S.R.fin:=by unfold roomAt;omega
 have hp:laidP S.R.fin m=[.fill (roomAt S.R.fin),.one m]:=by unfold laidP;rw[if_neg hg]
 have hc:costP S.R.fin m=roomAt S.R.fin+(recB m).size:=by rw[cost_laid hok,laid_len he,if_neg hg]
 have hf1:R1.fin=S.R.fin+roomAt S.R.fin:=by rw[hA1.fin,fillB_size hrm]
 have hid:idP S.R.fin m=R1.fin:=by unfold idP;rw[if_neg hg,hf1]
 have hps:S.ps++[.fill (roomAt S.R.fin),.one m]=S.ps++[.fill (roomAt S.R.fin)]++[.one m]:=by rw[List.append_assoc];rfl
 have hst:R'.start=S.R.start:=hA.kin.start.trans hA1.kin.start
 have hfl:S.R.start+(flat (S.ps++[.fill (roomAt S.R.fin)])).length=R1.fin:=by
  rw[flat_snoc,List.length_append,hf1,hsz]
  show _+(_+(Pc.fill _).len)=_
  rw[Pc.len_fill (by rw[←hsz];exact hrm)];omega
 have hr:recs R'.start (S.ps++[.fill (roomAt S.R.fin),.one m])=S.recs++[(R1.fin,m)]:=by
  rw[hst,hps,recs_one,recs_fill,hfl];rfl
 have hal:D'.size=S.D.size+costP S.R.fin m:=by
  rw[hA.size,hA1.size,hc,fillB_size hrm];omega
 refine⟨⟨D',R',S.ps++[.fill (roomAt S.R.fin),.one m],m.born⟩,tfoot t r sb mb F' v' iv,⟨⟨r,sb,mb,F',v',iv,?_,fun b=>Iff.rfl⟩,?_,?_,(hA.kin.size.trans hA1.kin.size).trans h.size,(hA.kin.head.trans hA1.kin.head).trans h.head,?_⟩,hS,.inr (.inr (.inr (.inr ⟨hok,hd,hroom,by rw[hid],?_⟩)))⟩
 ·show TpIn W w' t p (n+2) r sb mb D' R' (recs R'.start (S.ps++[.fill (roomAt S.R.fin),.one m])) m.born F' v' iv
  rw[hr]
  exact⟨hT.seg.mono hk,hT.obj,hT.sums,hT.ids,hT.sizes,hT.apart,hT.mF,hT.tW,hT.sW,hT.mW⟩
 ·show Holds D' R' (flat (S.ps++[.fill (roomAt S.R.fin),.one m]))
  rw[hps,flat_snoc]
  exact hA.holds
 ·show FitL R'.start (S.ps++[.fill (roomAt S.R.fin),.one m])
  rw[hst,hps,fitL_snoc,fitL_snoc,hfl,←hsz]
  refine⟨⟨h.fit,fill_fit he⟩,one_fit hok (one_fresh hok ?_)⟩
  rw[hf1];exact behind_fill _
 ·show BornIs (recs R'.start (S.ps++[.fill (roomAt S.R.fin),.one m])) m.born
  rw[hr]
  exact BornIs.snoc _ _
 ·refine⟨by rw[hp],rfl,hA1.kin.trans hA.kin,?_,hA.tight,hA.cnt,hA.cap.trans hA1.cap,?_,hA.down.2,?_,fun hn=>hA.names (hA1.names hn),hal,fun ha=>hA.alive (hA1.alive ha),fun sf hw=>by
   show Wk D' R' (S.ps++[.fill (roomAt S.R.fin),.one m]) sf
   rw[hps]
   exact hA.wk _ sf (.one m) (bA_back _) (hA1.wk S.ps sf (.fill _) (bA_back _) hw)⟩
  ·show R'.fin=_
   rw[hA.fin,hf1,hc];omega
  ·have h1:=hA1.only
   have h2:=hA.only
   rw[hA1.kin.head]at h2
   rw[←h.head]
   exact h1.trans h2
  ·have h1:=hA1.few
   have h2:=hA.few
   show D'.files.length≤_
   omega
theorem fell_one {m:MsgS} {k:Nat} (h:Tp W t p n S G w) (hok:okM m) (hd:S.D.down=false) (hroom:(costP S.R.fin m:Int)≤S.D.cap-S.D.size) (hk:k≤n+2)
  (hT:TpIn W w' t p k r sb mb D' R' S.recs S.last F' v' iv) (hA:AppNo S.D S.R (flat S.ps) D' R') (hS:Step G w (tfoot t r sb mb F' v' iv) w'):AppDone W t p n S m G w (.returned (.tuple #[.int .i64 0,.int .i64 8])) w':=by
 have hr:recs R'.start S.ps=S.recs:=by rw[hA.kin.start];rfl
 refine⟨⟨D',R',S.ps,S.last⟩,tfoot t r sb mb F' v' iv,⟨⟨r,sb,mb,F',v',iv,?_,fun b=>Iff.rfl⟩,hA.holds,?_,hA.kin.size.trans h.size,hA.kin.head.trans h.head,?_⟩,hS,.inr (.inr (.inr (.inl ⟨hok,hd,hroom,rfl,?_⟩)))⟩
 ·show TpIn W w' t p (n+2) r sb mb D' R' (recs R'.start S.ps) S.last F' v' iv
  rw[hr]
  exact⟨hT.seg.mono hk,hT.obj,hT.sums,hT.ids,hT.sizes,hT.apart,hT.mF,hT.tW,hT.sW,hT.mW⟩
 ·show FitL R'.start S.ps
  rw[hA.kin.start]
  exact h.fit
 ·show BornIs (recs R'.start S.ps) S.last
  rw[hr]
  exact h.born
 ·exact⟨.inl rfl,rfl,hA.kin,hA.cap,by rw[←h.head];exact hA.only,hA.down,by have:=hA.few;simp only;omega,hA.names,hA.dead,fun sf hw=>hA.wk S.ps sf hw,by have:=hA.size;show D'.size≤_;omega⟩
theorem fell_two {m:MsgS} {k:Nat} {D1:DiskS} {R1:RowS} (h:Tp W t p n S G w) (hok:okM m) (hg:¬goesIn S.R.fin (recB m).size) (hd:S.D.down=false) (hroom:(costP S.R.fin m:Int)≤S.D.cap-S.D.size) (hk:k≤n+2)
  (hA1:AppOk S.D S.R (flat S.ps) (fillB (roomAt S.R.fin)) D1 R1) (hT:TpIn W w' t p k r sb mb D' R' S.recs S.last F' v' iv) (hA:AppNo D1 R1 (flat (S.ps++[.fill (roomAt S.R.fin)])) D' R') (hS:Step G w (tfoot t r sb mb F' v' iv) w'):AppDone W t p n S m G w (.returned (.tuple #[.int .i64 0,.int .i64 8])) w':=by
 have he:=h.end_ok
 have hsz:=h.holds.size
 have hst:R'.start=S.R.start:=hA.kin.start.trans hA1.kin.start
 have hr:recs R'.start (S.ps++[.fill (roomAt S.R.fin)])=S.recs:=by rw[hst,recs_fill];rfl
 refine⟨⟨D',R',S.ps++[.fill (roomAt S.R.fin)],S.last⟩,tfoot t r sb mb F' v' iv,⟨⟨r,sb,mb,F',v',iv,?_,fun b=>Iff.rfl⟩,hA.holds,?_,(hA.kin.size.trans hA1.kin.size).trans h.size,(hA.kin.head.trans hA1.kin.head).trans h.head,?_⟩,hS,.inr (.inr (.inr (.inl ⟨hok,hd,hroom,rfl,?_⟩)))⟩
 ·show TpIn W w' t p (n+2) r sb mb D' R' (recs R'.start (S.ps++[.fill (roomAt S.R.fin)])) S.last F' v' iv
  rw[hr]
  exact⟨hT.seg.mono hk,hT.obj,hT.sums,hT.ids,hT.sizes,hT.apart,hT.mF,hT.tW,hT.sW,hT.mW⟩
 ·show FitL R'.start (S.ps++[.fill (roomAt S.R.fin)])
  rw[hst,fitL_snoc,←hsz]
  exact⟨h.fit,fill_fit he⟩
 ·show BornIs (recs R'.start (S.ps++[.fill (roomAt S.R.fin)])) S.last
  rw[hr]
  exact h.born
 ·refine⟨.inr ⟨hg,rfl⟩,rfl,hA1.kin.trans hA.kin,hA.cap.trans hA1.cap,?_,hA.down,?_,fun hn=>hA.names (hA1.names hn),fun ha=>hA.dead (hA1.alive ha),fun sf hw=>hA.wk _ sf (hA1.wk S.ps sf (.fill _) (bA_back _) hw),by
   have h1:=hA.size
   have h2:=hA1.size
   rw[fillB_size (by unfold roomAt;omega)]at h2
   have hc:costP S.R.fin m=roomAt S.R.fin+(recB m).size:=by rw[cost_laid hok,laid_len he,if_neg hg]
   show D'.size≤_
   omega⟩
  ·have h1:=hA1.only
   have h2:=hA.only
   rw[hA1.kin.head]at h2
   rw[←h.head]
   exact h1.trans h2
  ·have h1:=hA1.few
   have h2:=hA.few
   show D'.files.length≤_
   omega
set_option maxHeartbeats 16000000 in
theorem Append_any (m:MsgS) (kv:Value) (w:World) (h:Tp W t p n S G w) (hm:Fair w m kv) (hn:n≤999980) (hfin:S.R.fin≤900000) :
  Calls Tryz.prog 26 #[ptrTo t,.agg (msgA m kv)] w (AppDone W t p n S m G w):=by
 obtain⟨r,sb,mb,F,v,iv,hT,hG⟩:=h.at_
 have he:=h.end_ok
 have hgood:=hT.seg.disk.good
 have H:=box h
 have Hm:=box hm
 obtain⟨ka,kcap,hkv,_⟩:=hm.keys.uni
 subst hkv
 obtain⟨W1,hW1⟩:∃W1,w.alloc (.cells (msgA m (.slice ka m.keys.length kcap)) 63)=W1:=⟨_,rfl⟩
 have J0:=box (show W1.heap[w.heap.size]? = some (.cells (msgA m (.slice ka m.keys.length kcap)) 63 (0,0)) by rw[←hW1];exact heap_new w _)
 have C0:=box (show Calm w W1 by rw[←hW1];exact(Calm.refl w).alloc _)
 have hlaid:=box (laid_any m _ W1 (hT.calm C0.out) h.size he (hm.calm C0.out))
 have hnil:=box (show ¬okM m→fillOf S.R.fin m=⟨#[]⟩∧bytesOf m=⟨#[]⟩ from fun hok=>by unfold fillOf bytesOf;rw[if_neg hok,if_neg hok];exact⟨rfl,rfl⟩)
 by_cases hok:okM m
 ·have hcost:=cost_of m he
  have hb2:bytesOf m=recB m:=by unfold bytesOf;rw[if_pos hok]
  have hbd:=recB_bounds hok.1 hok.2
  have hfg:goesIn S.R.fin (recB m).size→fillOf S.R.fin m=⟨#[]⟩:=fun hg=>by unfold fillOf;rw[if_pos hok,if_pos hg]
  have hfn:¬goesIn S.R.fin (recB m).size→fillOf S.R.fin m=fillB (roomAt S.R.fin):=fun hg=>by unfold fillOf;rw[if_pos hok,if_neg hg]
  have hrm:3≤roomAt S.R.fin∧roomAt S.R.fin≤1024:=by unfold roomAt;omega
  rw[hb2,decide_eq_true hok]at hlaid
  rw[hb2]at hcost
  have hRoom:=room_at h.holds.ok h.size
  have hlt:=hT.lt
  have hdown:=box (fun W' (hc:Calm W1 W')=>Down_any W' (hT.calm (C0.out.trans hc)).seg.disk.lies)
  have hroomc:=box (fun W' (hc:Calm W1 W')=>dk.Room_any W' (hT.calm (C0.out.trans hc)).seg.disk.lies (by have:=hgood.size;have:=hgood.cap;omega) hgood.cap)
  have hcs:=box (fun W' (hc:Calm W1 W')=>hT.calm (C0.out.trans hc))
  have hS0:=box (show ∀w3 w4 F2 v2 iv2,Calm W1 w3→Step (tfoot t r sb mb F v iv) w3 (tfoot t r sb mb F2 v2 iv2) w4→Step G w (tfoot t r sb mb F2 v2 iv2) w4 from fun w3 w4 F2 v2 iv2 hc hs=>Step.iff (Step.calm_left (C0.out.trans hc) hs) hG (fun _=>Iff.rfl))
  have hJ:=box (show ∀w3 w4 F2 v2 iv2,Calm W1 w3→Step (tfoot t r sb mb F v iv) w3 (tfoot t r sb mb F2 v2 iv2) w4→w4.heap[w.heap.size]? = some (.cells (msgA m (.slice ka m.keys.length kcap)) 63 (0,0)) from fun w3 w4 F2 v2 iv2 hc hs =>
   (hs.keeps.block _ (heap_lt (heap_calm hc J0.out)) (fun e=>Nat.lt_irrefl _ (hlt _ e))).trans (heap_calm hc J0.out))
  have hnew:=box (show ∀x∈S.recs,x.1≠S.R.fin∧(∀a,S.R.fin≤a→x.1≠a) from fun x hx=>by
   have h1:=recs_range S.ps _ h.fit x hx
   have h2:=recB_bounds h1.2.2.1 h1.2.2.2.1
   have h3:=h.holds.size
   exact⟨by omega,fun a ha=>by omega⟩)
  have hfew:=h.few.2
  have Hok:=box hok
  obtain⟨iva,ivn,ivc,rfl⟩:=row_slice hT.ids
  have HT:=box hT
  have c0:=cell_of J0.out 0
  have c1:=cell_of J0.out 1
  have c2:=cell_of J0.out 2
  have c3:=cell_of J0.out 3
  have c4:=cell_of J0.out 4
  have c5:=cell_of J0.out 5
  have c6:=cell_of J0.out 6
  have c7:=cell_of J0.out 7
  have c8:=cell_of J0.out 8
  have c9:=cell_of J0.out 9
  have clt:=heap_lt J0.out
  have Hcost:=box hcost
  obtain⟨f,hfE⟩:∃f,fillOf S.R.fin m=f:=⟨_,rfl⟩
  obtain⟨sB,hsE⟩:∃x,recB m=x:=⟨_,rfl⟩
  have HsE:=box hsE
  have HFG:=box hfg
  have HFN:=box hfn
  have hfz:f.size≤1024:=by
   by_cases hg:goesIn S.R.fin (recB m).size
   ·rw[←hfE,hfg hg];decide
   ·rw[←hfE,hfn hg,fillB_size hrm.1];exact hrm.2
  rw[hfE,hsE]at hlaid Hcost
  rw[hsE]at hbd
  rw[hfE]at HFG HFN
  have hcap:=hgood.cap
  have hsize:=hgood.size
  clear hnil hok hfg hfn hfE hsE hcost hb2 hT hG he hgood h hm hlt
  go_enter Tryz.func26,Tryz.ntmps26
  go_wp2_with fail
  (try rw[hW1])
  refine hlaid.out.mono ?_
  rintro e w2 ⟨rfl,hc2⟩
  have HC2:=box hc2
  clear hc2 hlaid c0 c1 c2 c3 c4 c5 c6 c7 c8 c9 clt
  obtain⟨g0,g1,g2,g3,g4,glt⟩:=(hcs.out _ HC2.out).cells
  have d0:=(hcs.out _ HC2.out).seg.row.cells.1
  have dlt:=heap_lt (hcs.out _ HC2.out).seg.row.at_
  by_cases hd:S.D.down=true
  ·rw[hd]at hdown
   have Hres:=box (show AppT S m (.returned (.tuple #[.int .i64 0,.int .i64 8])) S from .inr (.inl ⟨Hok.out,hd,rfl,rfl⟩))
   clear hd
   go_wp2_with fail
   refine(hdown.out _ HC2.out).mono ?_
   rintro e w3 ⟨rfl,rfl⟩
   go_wp2_with fail
   go_ret2
   exact AppDone.same H.out (C0.out.trans HC2.out) Hres.out
  have hdf:S.D.down=false:=by simpa using hd
  have Hdf:=box hdf
  rw[hdf]at hdown
  clear hd hdf
  go_wp2_with fail
  refine(hdown.out _ HC2.out).mono ?_
  rintro e w3 ⟨rfl,rfl⟩
  go_wp2_with fail
  refine(hroomc.out _ HC2.out).mono ?_
  rintro e w3 ⟨rfl,hc3⟩
  have HC3:=box (HC2.out.trans hc3)
  clear hc3 hroomc hdown g0 g1 g2 g3 g4 glt d0 dlt
  obtain⟨g0,g1,g2,g3,g4,glt⟩:=(hcs.out _ HC3.out).cells
  have k1:IntKind.i64.wrap ((f.size:Int)+(sB.size:Int))=(f.size:Int)+(sB.size:Int):=IntWalk.i64_in _ (by omega)
  by_cases hfull:S.D.cap-S.D.size<(f.size:Int)+(sB.size:Int)
  ·have t1:decide (S.D.cap-S.D.size<(f.size:Int)+(sB.size:Int))=true:=decide_eq_true hfull
   have Hres:=box (show AppT S m (.returned (.tuple #[.int .i64 0,.int .i64 7])) S from .inr (.inr (.inl ⟨Hok.out,Hdf.out,by rw[Hcost.out];omega,rfl,rfl⟩)))
   clear hfull
   go_wp2_with fail
   go_ret2
   exact AppDone.same H.out (C0.out.trans HC3.out) Hres.out
  have t1:decide (S.D.cap-S.D.size<(f.size:Int)+(sB.size:Int))=false:=decide_eq_false hfull
  have Hroom:=box (show (costP S.R.fin m:Int)≤S.D.cap-S.D.size by rw[Hcost.out];omega)
  have hroom3:(f.size:Int)+(sB.size:Int)≤S.D.cap-S.D.size:=by omega
  clear hfull
  by_cases hg:goesIn S.R.fin (recB m).size
  ·have hf0:=HFG.out hg
   subst hf0
   have hz0:(⟨#[]⟩:ByteArray).size=0:=rfl
   rw[hz0]at hroom3
   have t2:decide (S.D.cap-S.D.size<(sB.size:Int))=false:=decide_eq_false (by omega)
   have happ:=box (row_append (hcs.out _ HC3.out) H.out.holds sB (by omega) (by rw[hRoom];have:=hg;rw[HsE.out]at this;unfold goesIn at this;omega) (fun _=>by omega) (by omega) H.out.head (by omega))
   have Hg:=box hg
   clear hg HFG HFN t1 k1 hroom3 hz0
   go_wp2_with fail
   refine happ.out.mono ?_
   rintro e w4 ⟨E,R',F',v',hT4,hS4,hres⟩
   have HS4:=box (hS0.out _ _ _ _ _ HC3.out hS4)
   have HT4:=box hT4
   have J4:=box (hJ.out _ _ _ _ _ HC3.out hS4)
   clear hT4 hS4 happ g0 g1 g2 g3 g4 glt
   rcases hres with ⟨rfl,hA⟩|⟨rfl,hA⟩
   ·have HA:=box hA
    clear hA
    go_wp2_with fail
    go_ret2
    exact fell_one H.out Hok.out Hdf.out Hroom.out (by omega) HT4.out HA.out HS4.out
   ·have HA:=box hA
    have hnote:=box (note_any m (.slice ka m.keys.length kcap) S.R.fin w4 HT4.out Hok.out.2 (fun x hx=>(hnew.out x hx).1) (by omega))
    rw[HsE.out]at hnote
    clear hA
    have c0:=cell_of J4.out 0
    have c1:=cell_of J4.out 1
    have c2:=cell_of J4.out 2
    have c3:=cell_of J4.out 3
    have c4:=cell_of J4.out 4
    have c5:=cell_of J4.out 5
    have c6:=cell_of J4.out 6
    have c7:=cell_of J4.out 7
    have c8:=cell_of J4.out 8
    have c9:=cell_of J4.out 9
    have clt:=heap_lt J4.out
    go_wp2_with fail
    refine hnote.out.mono ?_
    rintro e w5 ⟨rfl,iv5,hT5,hS5⟩
    have HT5:=box hT5
    have HS5:=box (Step.trans HS4.out hS5)
    clear hT5 hS5 hnote c0 c1 c2 c3 c4 c5 c6 c7 c8 c9 clt
    go_wp2_with fail
    go_ret2
    exact done_one H.out Hok.out Hg.out Hdf.out Hroom.out (by omega) HT5.out (by rw[HsE.out];exact HA.out) HS5.out
  ·have hf0:=HFN.out hg
   obtain⟨hrm1,hrm2⟩:=hrm
   have hfs:f.size=roomAt S.R.fin:=by rw[hf0,fillB_size hrm1]
   have happ:=box (row_append (hcs.out _ HC3.out) H.out.holds f (by omega) (by rw[hRoom];omega) (fun _=>by omega) (by omega) H.out.head (by omega))
   have Hg:=box hg
   have Hf0:=box hf0
   have s1:f.toList.isEmpty=false:=by
    rw[Lib.toList_data,List.isEmpty_eq_false_iff]
    intro e
    have:=congrArg List.length e
    rw[size_toList]at this
    have h2:f.size=0:=this
    omega
   have s2:(f.toList == [])=false:=by
    rw[beq_eq_false_iff_ne]
    intro e
    rw[e]at s1
    cases s1
   have Hfs:=box hfs
   clear hg hf0 HFG HFN hfs
   go_wp2_with fail
   refine happ.out.mono ?_
   rintro e w4 ⟨E,R',F',v',hT4,hS4,hres⟩
   have HS4:=box (hS0.out _ _ _ _ _ HC3.out hS4)
   have HT4:=box hT4
   have J4:=box (hJ.out _ _ _ _ _ HC3.out hS4)
   have Hlt4:=box hT4.lt
   have hne4:=box (show ¬tfoot t r sb mb F' v' (.slice iva ivn ivc) w.heap.size from fun e=>by
    rcases hS4.foot _ e with h1|h1
    ·exact Nat.lt_irrefl _ (HT.out.lt _ h1)
    ·have h2:=HC3.out.size
     have h3:=C0.out.size
     have h4:=heap_lt J0.out
     omega)
   clear hT4 hS4 happ g0 g1 g2 g3 g4 glt
   rcases hres with ⟨rfl,hA⟩|⟨rfl,hA⟩
   ·have HA:=box hA
    clear hA
    go_wp2_with fail
    go_ret2
    exact fell_one H.out Hok.out Hdf.out Hroom.out (by omega) HT4.out HA.out HS4.out
   ·rw[Hf0.out]at hA
    have hfl:flat S.ps++(fillB (roomAt S.R.fin)).data.toList=flat (S.ps++[.fill (roomAt S.R.fin)]):=by rw[flat_snoc];rfl
    have hR4:R'.room=1024:=by
     rw[room_at hA.holds.ok (hA.kin.size.trans H.out.size),hA.fin,fillB_size hrm1]
     unfold roomAt
     omega
    have hA2:=hA
    have hh:=hA.holds
    rw[hfl]at hh
    have hf4:R'.fin=S.R.fin+roomAt S.R.fin:=by rw[hA.fin,fillB_size hrm1]
    have happ:=box (row_append HT4.out hh sB (by omega) (by omega) (fun _=>by
     have h1:=hA.size
     have h2:=hA.cap
     have h3:=Hfs.out
     rw[fillB_size hrm1]at h1
     omega) (by omega) (hA.kin.head.trans H.out.head) (by omega))
    have HA1:=box hA2
    have hgr:R'.fin≤1000000∧S.R.fin≤R'.fin:=by omega
    have Hh4:=box hh
    clear hA hA2 hh hf4 hR4 hfl
    obtain⟨g0,g1,g2,g3,g4,glt⟩:=HT4.out.cells
    have d0:=HT4.out.seg.row.cells.1
    go_wp2_with fail
    refine happ.out.mono ?_
    rintro e w5 ⟨E2,R2,F2,v2,hT5,hS5,hres⟩
    have HS5:=box (Step.trans HS4.out hS5)
    have HT5:=box hT5
    have J5:=box ((hS5.keeps.block _ (heap_lt J4.out) hne4.out).trans J4.out)
    clear hT5 hS5 happ g0 g1 g2 g3 g4 glt d0
    rcases hres with ⟨rfl,hA⟩|⟨rfl,hA⟩
    ·have HA:=box hA
     clear hA
     go_wp2_with fail
     go_ret2
     exact fell_two H.out Hok.out Hg.out Hdf.out Hroom.out (by omega) HA1.out HT5.out HA.out HS5.out
    ·have HA:=box hA
     have hnote:=box (note_any m (.slice ka m.keys.length kcap) R'.fin w5 HT5.out Hok.out.2 (fun x hx=>(hnew.out x hx).2 _ hgr.2) (by omega))
     rw[HsE.out]at hnote
     clear hA
     have c0:=cell_of J5.out 0
     have c1:=cell_of J5.out 1
     have c2:=cell_of J5.out 2
     have c3:=cell_of J5.out 3
     have c4:=cell_of J5.out 4
     have c5:=cell_of J5.out 5
     have c6:=cell_of J5.out 6
     have c7:=cell_of J5.out 7
     have c8:=cell_of J5.out 8
     have c9:=cell_of J5.out 9
     have clt:=heap_lt J5.out
     go_wp2_with fail
     refine hnote.out.mono ?_
     rintro e w6 ⟨rfl,iv6,hT6,hS6⟩
     have HT6:=box hT6
     have HS6:=box (Step.trans HS5.out hS6)
     clear hT6 hS6 hnote c0 c1 c2 c3 c4 c5 c6 c7 c8 c9 clt
     go_wp2_with fail
     go_ret2
     exact done_two H.out Hok.out Hg.out Hdf.out Hroom.out (by omega) HA1.out HT6.out (by rw[HsE.out];exact HA.out) HS6.out
 ·obtain⟨e1,e2⟩:=hnil.out hok
  rw[e1,e2,decide_eq_false hok]at hlaid
  have Hres:=box (show AppT S m (.returned (.tuple #[.int .i64 0,.int .i64 1])) S from .inl ⟨hok,rfl,rfl⟩)
  clear hnil hok e1 e2 hT hG he hgood h hm
  obtain⟨kd,q,du,rt,rf,bn,tp,tg,bd,ks⟩:=m
  have c0:=cell_of J0.out 0
  have c1:=cell_of J0.out 1
  have c2:=cell_of J0.out 2
  have c3:=cell_of J0.out 3
  have c4:=cell_of J0.out 4
  have c5:=cell_of J0.out 5
  have c6:=cell_of J0.out 6
  have c7:=cell_of J0.out 7
  have c8:=cell_of J0.out 8
  have c9:=cell_of J0.out 9
  have hlt:=heap_lt J0.out
  go_enter Tryz.func26,Tryz.ntmps26
  go_wp2_with fail
  (try rw[hW1])
  refine hlaid.out.mono ?_
  rintro e w2 ⟨rfl,hc2⟩
  have HC2:=box (C0.out.trans hc2)
  clear hc2 hlaid
  go_wp2_with fail
  go_ret2
  exact AppDone.same H.out HC2.out Hres.out
end
end Go.Proofs.YtiahjipoofeliaaGreatDoor.tp

namespace Go.Proofs.YtiahjipoofeliaaGreatDoor.tp
open Go.ChangeShapes Go.WideShapes Go.ChangeAt Go.RowKit Go.ChangeMaps Go.MapKept
open rc oc cr dk sg
def recOf (L:List (Nat×MsgS)) (k:Int):Option (Nat×MsgS):=L.find? fun x=>decide ((x.1:Int)=k)
def sizeOf' (L:List (Nat×MsgS)) (k:Int):Nat:=match recOf L k with|some x=>(recB x.2).size|none=>0
theorem rec_some {L:List (Nat×MsgS)} {k:Int} {x:Nat×MsgS} (h:recOf L k=some x):x∈L∧(x.1:Int)=k:=⟨List.mem_of_find?_eq_some h,by have:=List.find?_some h;simpa using this⟩
theorem rec_none {L:List (Nat×MsgS)} {k:Int} (h:recOf L k=none):∀x∈L,(x.1:Int)≠k:=fun x hx=>by
 have:=List.find?_eq_none.1 h x hx
 simpa using this
theorem rec_mem {L:List (Nat×MsgS)} (hr:Rises L) {x:Nat×MsgS} (hx:x∈L):recOf L (x.1:Int)=some x:=by
 cases h:recOf L (x.1:Int) with
 | none=>exact absurd rfl (rec_none h x hx)
 | some y =>
  obtain⟨h1,h2⟩:=rec_some h
  congr 1
  have h3:(L.map (·.1)).Nodup:=by
   rw[List.Nodup,List.pairwise_map]
   exact hr.imp (fun h e=>by omega)
  exact nodup_inj h3 h1 hx (by omega)
section
variable {W w w':World} {t p n r sb mb:Nat} {D D':DiskS} {R R':RowS} {L:List (Nat×MsgS)} {last:Int} {F F' G G':Nat→Prop} {v v' iv:Value} {S S':TS} {b:List UInt8}
theorem TpIn.look (h:TpIn W w t p n r sb mb D R L last F v iv) (k:Int):∀w',Calm w w'→(Instr.lookup 120 (.map (some mb)) (.int .i64 k) false).run Tryz.prog w'=.ok (.int .i64 (sizeOf' L k:Int)) w':=fun w' hc=>by
 have hm:=h.sizes.calm hc
 unfold sizeOf'
 cases hx:recOf L k with
 | some x =>
  obtain⟨h1,h2⟩:=rec_some hx
  exact hm.hit (P:=Tryz.prog) Tryz.underlying120 Tryz.underlying3 (key:=.int .i64 k) (v:=.int .i64 ((recB x.2).size:Int)) rfl (List.mem_map.2 ⟨x,h1,by unfold encZ;rw[h2]⟩) false
 | none =>
  have h1:=rec_none hx
  exact hm.miss (P:=Tryz.prog) (z:=.int .i64 0) Tryz.underlying120 Tryz.underlying3 (key:=.int .i64 k) rfl (by kernel_rfl) (fun y hy=>by
   obtain⟨x,hx,rfl⟩:=List.mem_map.1 hy
   intro e
   simp only[encZ,Value.int.injEq,true_and]at e
   exact h1 x hx e) false
theorem Size_any (k:Int) (w:World) (h:Tp W t p n S G w):Calls Tryz.prog 53 #[ptrTo t,.int .i64 k] w fun e w'=>e=.returned (.int .i64 (sizeOf' S.recs k:Int))∧w=w':=by
 obtain⟨r,sb,mb,F,v,iv,hT,hG⟩:=h.at_
 have hl:=hT.look k w (Calm.refl _)
 obtain⟨z,hz⟩:∃z,sizeOf' S.recs k=z:=⟨_,rfl⟩
 rw[hz]at hl ⊢
 obtain⟨c0,c1,c2,c3,c4,clt⟩:=hT.cells
 clear hT hG h hz
 go_enter Tryz.func53,Tryz.ntmps53
 go_wp2_with fail
 go_ret
 exact⟨rfl,rfl⟩
theorem End_any (w:World) (h:Tp W t p n S G w):Calls Tryz.prog 30 #[ptrTo t] w fun e w'=>e=.returned (.int .i64 (S.R.fin:Int))∧w=w':=by
 obtain⟨r,sb,mb,F,v,iv,hT,hG⟩:=h.at_
 have hb:=box (sg.End_any w hT.seg.row)
 obtain⟨c0,c1,c2,c3,c4,clt⟩:=hT.cells
 clear hT hG h
 go_enter Tryz.func30,Tryz.ntmps30
 go_wp2_with fail
 refine hb.out.mono ?_
 rintro e w1 ⟨rfl,rfl⟩
 go_wp2_with fail
 go_ret
 exact⟨rfl,rfl⟩
end
section
variable {W w w':World} {t p n r sb mb:Nat} {D D':DiskS} {R R':RowS} {L:List (Nat×MsgS)} {last:Int} {F F' G G':Nat→Prop} {v v' iv:Value} {S S':TS} {b:List UInt8}
def NumsAt (w:World) (L:List (Nat×MsgS)) (iv:Value):Prop:=(L=[]∧iv=.slice none 0 0)∨∃b cap,iv=.slice (some ⟨b,0,none⟩) L.length cap∧L.length≤cap∧b<w.heap.size∧∀j,j<(numsI L).length→w.cell? ⟨b,0+j,none⟩=some (.int .i64 ((numsI L).getD j 0))
def NumsDone (B:Nat) (l:List (Nat×MsgS)) (w:World) (e:Ending) (w':World):Prop:=∃a cap,e=.returned (.slice a l.length cap)∧w'.ownsRow B 3 1 (.slice a l.length cap) l.length (intN (l.map (·.1)))∧Calm w w'
theorem clone_nums (w:World) (hN:NumsAt w L iv) (hL:L.length≤1000000) {pl:Nat} (hle:pl≤L.length) :
  ∃sv,(∀W':World,(Instr.slice 69 iv (some (.int .i64 (pl:Int))) none none).run Tryz.prog W'=.ok sv W')∧(∃a n c,sv=.slice a n c)∧∀w',Calm w w'→Calls Tryz.prog 68 #[sv] w' (NumsDone w'.heap.size (L.drop pl) w'):=by
 rcases hN with ⟨h1,h2⟩|⟨bb,cap,h1,h2,h3,h4⟩
 ·subst h1 h2
  obtain rfl:pl=0:=by simpa using hle
  refine⟨.slice none 0 0,fun W'=>?_,⟨_,_,_,rfl⟩,fun w' _=>?_⟩
  ·have he:Tryz.prog.elem 69=3:=by kernel_rfl
   have hz:∀w:World,(Go.sizeOf 3).run Tryz.prog w=.ok 1 w:=Tryz.sizeOf3
   rw[run_slice_l W' 69 _ _ _ (by rw[he];exact Tryz.underlying69) .i64 _ (by omega) (by omega),he,hz]
   simp [Result.andThen,sliced]
  ·exact(Tryz.slices_Clone_int_nil 0 0 w').mono fun e w2 ⟨he,hw⟩=>⟨none,0,he,World.ownsRow_nil _ _ _ _,hw ▸ Calm.refl _⟩
 ·subst h1
  obtain⟨a',hs,ha⟩:=slice_from w bb L.length cap pl hle h2
  refine⟨_,hs,⟨_,_,_,rfl⟩,fun w' hc=>?_⟩
  by_cases hlt:pl<L.length
  ·rw[ha (by omega)]
   have hd:(numsI L).drop pl=numsI (L.drop pl):=by unfold numsI;rw[List.map_drop]
   refine(Tryz.slices_Clone_int bb pl (L.length-pl) (cap-pl) ((numsI L).drop pl) w' (by rw[List.length_drop,nums_length];exact Nat.le_refl _) (by omega) (fun j hj=>?_)).mono ?_
   ·rw[List.length_drop,nums_length]at hj
    have:=h4 (pl+j) (by rw[nums_length];omega)
    rw[Nat.zero_add]at this
    rw[hc.cell (p:=⟨bb,pl+j,none⟩) h3,this]
    simp [List.getD_eq_getElem?_getD,List.getElem?_drop]
   ·rintro e w2 ⟨v2,rfl,h5,_,h6⟩
    have h7:w2.ownsRow w'.heap.size 3 1 v2 (L.drop pl).length (intN ((L.drop pl).map (·.1))):=by
     rw[List.take_of_length_le (by rw[List.length_drop,nums_length];exact Nat.le_refl _),hd]at h5
     rw[nums_row,List.length_drop]
     exact h5
    obtain⟨a2,c2,rfl,_⟩:=row_cap h7
    exact⟨a2,c2,rfl,h7,h6⟩
  ·have h0:L.length-pl=0:=by omega
   rw[h0]
   refine(Tryz.slices_Clone_int_zero a' (cap-pl) w').mono ?_
   rintro e w2 ⟨v2,rfl,h5,_,h6⟩
   have hnil:L.drop pl=[]:=List.drop_of_length_le (by omega)
   rw[hnil]
   obtain⟨a2,c2,rfl,_⟩:=row_cap h5
   exact⟨a2,c2,rfl,h5,h6⟩
theorem clone_from (w:World) (hT:TpIn W w t p n r sb mb D R L last F v iv) (hL:L.length≤1000000) {pl:Nat} (hle:pl≤L.length) :
  ∃sv,(∀W':World,(Instr.slice 69 iv (some (.int .i64 (pl:Int))) none none).run Tryz.prog W'=.ok sv W')∧(∃a n c,sv=.slice a n c)∧∀w',Calm w w'→Calls Tryz.prog 68 #[sv] w' (NumsDone w'.heap.size (L.drop pl) w'):=clone_nums w hT.nums hL hle
end
section
variable {W w w':World} {t p n r sb mb:Nat} {D D':DiskS} {R R':RowS} {L:List (Nat×MsgS)} {last:Int} {F F' G G':Nat→Prop} {v v' iv:Value} {S S':TS} {b:List UInt8}
set_option maxHeartbeats 4000000 in
theorem Ids_any (k:Int) (w:World) (h:Tp W t p n S G w) (hfin:S.R.fin≤1000000):Calls Tryz.prog 29 #[ptrTo t,.int .i64 k] w (NumsDone w.heap.size (fromL S.recs k) w):=by
 obtain⟨r,sb,mb,F,v,iv,hT,hG⟩:=h.at_
 have hfew:=h.few.2
 have hpl:=box (fun W' (hc:Calm w W')=>left_calm (place_any k W' (hT.calm hc) h.rises (by omega)))
 have hle:=place_le S.recs k
 have hdr:=drop_place h.rises k
 rw[←hdr]
 obtain⟨sv,hs,hsh,hcl⟩:=clone_from w hT (by omega) hle
 obtain⟨sa,sn,sc,rfl⟩:=hsh
 have Hcl:=box (fun W' (hc:Calm w W')=>(hcl W' hc).mono (fun e w2 ⟨a,c,he,hr,hc2⟩=>(⟨a,c,he,row_base (row_zero hr) (fun g hg=>Nat.le_trans hc.size (hr.lt g hg).1),hc2⟩:NumsDone w.heap.size (S.recs.drop (placeN S.recs k)) W' e w2)))
 have hcs:=box (fun W' (hc:Calm w W')=>(hT.calm hc).cells.2.2.1)
 obtain⟨iva,ivc,rfl,_⟩:=row_cap hT.ids
 obtain⟨c0,c1,c2,c3,c4,clt⟩:=hT.cells
 obtain⟨pl,hplE⟩:∃pl,placeN S.recs k=pl:=⟨_,rfl⟩
 rw[hplE]at hpl hle hs Hcl ⊢
 obtain⟨out,hout⟩:∃out,S.recs.drop pl=out:=⟨_,rfl⟩
 rw[hout]at Hcl ⊢
 clear hT hG h hdr hplE hcl hout
 go_enter Tryz.func29,Tryz.ntmps29
 go_upto_region 3 with fail
 go_region_held3 (fun w'=>w'.cell? ⟨t,2,none⟩=some (.slice iva S.recs.length ivc)) (first|go_keep|exact hcs.out _ (by exact cm)) (first
  | (go_at_call 69;refine(hpl.out _ (by exact cm)).mono ?_;rintro e w5 ⟨rfl,hc5⟩)
  | (go_at_call 68;refine(Hcl.out _ (by exact cm)).mono ?_;rintro e w6 ⟨a6,c6,rfl,hr6,hc6⟩))
 have HC6:=box (show Calm w w6 by exact cm)
 have HR6:=box hr6
 clear hr6 hc6 hpl Hcl hs hcs c0 c1 c2 c3 c4 clt
 go_wp2_with fail
 go_ret
 exact⟨a6,c6,rfl,HR6.out,HC6.out⟩
def ReadT (S:TS) (k:Int) (w:World) (e:Ending) (w':World):Prop:=Calm w w' ∧
 ((0≤k∧k<S.R.start∧e=.returned (.tuple #[.agg zeroA,.int .i64 14]))∨(¬(0≤k∧k<S.R.start)∧(∀x∈S.recs,(x.1:Int)≠k)∧e=.returned (.tuple #[.agg zeroA,.int .i64 9])) ∨
  ∃x∈S.recs,(x.1:Int)=k∧∃kv,e=.returned (.tuple #[.agg (msgA x.2 kv),.int .i64 0])∧StrsAt w' kv x.2.keys)
def ReadN (S:TS) (k:Int) (w:World) (e:Ending) (w':World):Prop:=Calm w w' ∧
 ((0≤k∧k<S.R.start∧e=.returned (.tuple #[.agg zeroA,.int .i64 14]))∨(¬(0≤k∧k<S.R.start)∧(∀x∈S.recs,(x.1:Int)≠k)∧e=.returned (.tuple #[.agg zeroA,.int .i64 9])) ∨
  ∃x∈S.recs,(x.1:Int)=k∧∃kv,e=.returned (.tuple #[.agg (msgA x.2 kv),.int .i64 0])∧StrsAt w' kv x.2.keys∧∀a n c,kv=.slice (some a) n c→0<n→w.heap.size≤a.block)
set_option maxHeartbeats 8000000 in
theorem Read_new (k:Int) (w:World) (h:Tp W t p n S G w) (ha:Alive S.D):Calls Tryz.prog 34 #[ptrTo t,.int .i64 k] w (ReadN S k w):=by
 obtain⟨r,sb,mb,F,v,iv,hT,hG⟩:=h.at_
 have hbeg:=box (fun W' (hc:Calm w W')=>sg.Begin_any W' (hT.seg.row.calm hc))
 have hlk:=hT.look k
 have hcs:=box (fun W' (hc:Calm w W')=>(hT.calm hc).cells)
 obtain⟨W1,hW1⟩:∃W1,w.alloc (.cells zeroA 63)=W1:=⟨_,rfl⟩
 have Z1:=box (show W1.heap[w.heap.size]? = some (.cells zeroA 63 (0,0)) by rw[←hW1];exact heap_new w _)
 have C1:=box (show Calm w W1 by rw[←hW1];exact(Calm.refl w).alloc _)
 have Hfin0:=box (put_msg Z1.out rfl (.int .i64 0) (.int .i64 0) (.int .i64 0) (.int .i64 0) (.int .i64 0) (.int .i64 0) (.string ⟨#[]⟩) (.string ⟨#[]⟩) (.string ⟨#[]⟩) (.slice none 0 0))
 have Cfin0:=box (calm_put_msg (a:=w) C1.out (b:=w.heap.size) (Nat.le_refl _) (.int .i64 0) (.int .i64 0) (.int .i64 0) (.int .i64 0) (.int .i64 0) (.int .i64 0) (.string ⟨#[]⟩) (.string ⟨#[]⟩) (.string ⟨#[]⟩) (.slice none 0 0))
 have z0:=cell_of Z1.out 0
 have z1:=cell_of Z1.out 1
 have z2:=cell_of Z1.out 2
 have z3:=cell_of Z1.out 3
 have z4:=cell_of Z1.out 4
 have z5:=cell_of Z1.out 5
 have z6:=cell_of Z1.out 6
 have z7:=cell_of Z1.out 7
 have z8:=cell_of Z1.out 8
 have z9:=cell_of Z1.out 9
 have f0:=free_of Z1.out 0
 have f1:=free_of Z1.out 1
 have f2:=free_of Z1.out 2
 have f3:=free_of Z1.out 3
 have f4:=free_of Z1.out 4
 have f5:=free_of Z1.out 5
 have f6:=free_of Z1.out 6
 have f7:=free_of Z1.out 7
 have f8:=free_of Z1.out 8
 have f9:=free_of Z1.out 9
 have hlz:=heap_lt Z1.out
 obtain⟨c0,c1,c2,c3,c4,clt⟩:=hcs.out _ C1.out
 by_cases hA:0≤k∧k<S.R.start
 ·obtain⟨hk0,hk1⟩:=hA
  have t1:decide (0≤k)=true:=decide_eq_true hk0
  have t2:decide (k<(S.R.start:Int))=true:=decide_eq_true hk1
  have Hk:=box (show 0≤k∧k<(S.R.start:Int) from ⟨hk0,hk1⟩)
  clear hk0 hk1 hT hG h hlk
  go_enter Tryz.func34,Tryz.ntmps34
  go_wp2_with fail
  (try rw[hW1])
  refine(hbeg.out _ C1.out).mono ?_
  rintro e w2 ⟨rfl,rfl⟩
  go_wp2_with fail
  (try simp only[Exit.inBlock,Exit.then])
  refine bodyPost_ret (ret_msg2 rfl _ _ w.heap.size _ rfl Hfin0.out rfl) rfl ?_
  exact⟨Cfin0.out,.inl ⟨Hk.out.1,Hk.out.2,rfl⟩⟩
 have HA:=box hA
 clear hA
 cases hx:recOf S.recs k with
 | none =>
  have Hno:=box (rec_none hx)
  have hz:sizeOf' S.recs k=0:=by unfold sizeOf';rw[hx]
  rw[hz]at hlk
  have hl:=hlk W1 C1.out
  clear hx hlk hz hT hG h
  by_cases hneg:k<0
  ·have t1:decide (0≤k)=false:=decide_eq_false (by omega)
   go_enter Tryz.func34,Tryz.ntmps34
   go_wp2_with fail
   (try rw[hW1])
   go_wp2_with fail
   (try simp only[Exit.inBlock,Exit.then])
   refine bodyPost_ret (ret_msg2 rfl _ _ w.heap.size _ rfl Hfin0.out rfl) rfl ?_
   exact⟨Cfin0.out,.inr (.inl ⟨HA.out,Hno.out,rfl⟩)⟩
  ·have t1:decide (0≤k)=true:=decide_eq_true (by omega)
   have t2:decide (k<(S.R.start:Int))=false:=decide_eq_false (by have:=HA.out;omega)
   go_enter Tryz.func34,Tryz.ntmps34
   go_wp2_with fail
   (try rw[hW1])
   refine(hbeg.out _ C1.out).mono ?_
   rintro e w2 ⟨rfl,rfl⟩
   go_wp2_with fail
   (try simp only[Exit.inBlock,Exit.then])
   refine bodyPost_ret (ret_msg2 rfl _ _ w.heap.size _ rfl Hfin0.out rfl) rfl ?_
   exact⟨Cfin0.out,.inr (.inl ⟨HA.out,Hno.out,rfl⟩)⟩
 | some x =>
  obtain⟨hx1,hx2⟩:=rec_some hx
  have hz:sizeOf' S.recs k=(recB x.2).size:=by unfold sizeOf';rw[hx]
  have hrg:=recs_range S.ps _ h.fit x hx1
  have hbd:=recB_bounds hrg.2.2.1 hrg.2.2.2.1
  have hrd0:=read_rec h.holds ha h.fit h.size hx1
  have hgt:=rec_get (m:=x.2) ⟨hrg.2.2.1,hrg.2.2.2.1⟩
  rw[hz]at hlk
  rw[hx2]at hrd0
  have hrd:=box (fun W' (hc:Calm w W')=>sg.Read_any k ((recB x.2).size:Int) W' (hT.seg.drew hc))
  rw[hrd0]at hrd
  have hget:=box (fun W' (hc:Calm w W')=>Get_fresh sb (recB x.2) W' (heap_calm hc hT.sums) (by omega))
  rw[hgt]at hget
  have t1:decide (0≤k)=true:=decide_eq_true (by omega)
  have t2:decide (k<(S.R.start:Int))=false:=decide_eq_false (by have:=HA.out;omega)
  have Hres:=box (show ∀kv w',Calm w w'→StrsAt w' kv x.2.keys→(∀a n c,kv=.slice (some a) n c→0<n→w.heap.size≤a.block)→ReadN S k w (.returned (.tuple #[.agg (msgA x.2 kv),.int .i64 0])) w' from fun kv w' hc hk hf=>⟨hc,.inr (.inr ⟨x,hx1,hx2,kv,rfl,hk,hf⟩)⟩)
  obtain⟨z,hzE⟩:∃z,(recB x.2).size=z:=⟨_,rfl⟩
  rw[hzE]at hlk hrd hget hbd
  obtain⟨B,hB⟩:∃B,recB x.2=B:=⟨_,rfl⟩
  rw[hB]at hrd hget
  obtain⟨id,m⟩:=x
  have t3:((z:Int)==0)=false:=beq_eq_false_iff_ne.2 (by omega)
  have hl:=hlk W1 C1.out
  have hlA:=hlk
  obtain⟨kd,q,du,rt,rf,bn,tp,tg,bd,ks⟩:=m
  simp only at hget Hres
  clear hx hx1 hx2 hz hrg hrd0 hgt hzE hB hT hG h ha
  have HL:=box hlA
  clear hlA hlk
  go_enter Tryz.func34,Tryz.ntmps34
  go_wp2_with fail
  (try rw[hW1])
  refine(hbeg.out _ C1.out).mono ?_
  rintro e w2 ⟨rfl,rfl⟩
  clear hbeg
  go_upto_region 7 with fail
  have hl2:=HL.out W1.drew C1.out.drew
  go_region_with ((go_at_call 71;refine(hrd.out _ (C1.out.trans (by exact cm))).mono ?_;rintro e w6 ⟨rfl,hc6⟩))
  all_goals
   have HW6:=box (show Calm W1 w6 by exact cm)
   have HC6:=box (C1.out.trans HW6.out)
   have Z6:=box (heap_calm HW6.out Z1.out)
   clear hc6 hrd c0 c1 c2 c3 c4 clt hl hl2 z0 z1 z2 z3 z4 z5 z6 z7 z8 z9 f0 f1 f2 f3 f4 f5 f6 f7 f8 f9 hlz
   obtain⟨c0,c1,c2,c3,c4,clt⟩:=hcs.out _ HC6.out
   go_wp2_with fail
   refine(hget.out _ HC6.out).mono ?_
   rintro e w7 ⟨kv,rfl,hk7,hc7,hfr⟩
   obtain⟨ka,kcap,rfl,_⟩:=hk7.uni
   simp only at hk7
   have J8:=box (heap_new w7 (.cells (msgA ⟨kd,q,du,rt,rf,bn,tp,tg,bd,ks⟩ (.slice ka ks.length kcap)) 63))
   have C8:=box ((Calm.refl w7).alloc (.cells (msgA ⟨kd,q,du,rt,rf,bn,tp,tg,bd,ks⟩ (.slice ka ks.length kcap)) 63))
   have Z8:=box (heap_calm (hc7.trans C8.out) Z6.out)
   have HC8:=box (HC6.out.trans (hc7.trans C8.out))
   have hks:=box (hk7.calm C8.out)
   have hzl:=heap_lt (heap_calm hc7 Z6.out)
   have hxk:=hzl
   have Hfin:=box (put_msg Z8.out rfl (.int .i64 kd) (.int .i64 q) (.int .i64 du) (.int .i64 rt) (.int .i64 rf) (.int .i64 bn) (.string tp) (.string tg) (.string bd) (.slice ka ks.length kcap))
   have FR:=box (show ∀a n c,Value.slice ka ks.length kcap=.slice (some a) n c→0<n→a.block≠w.heap.size from fun a n c e hn=>by
    have:=hfr a n c e hn
    have:=heap_lt Z6.out
    omega)
   have FN:=box (show ∀a n c,Value.slice ka ks.length kcap=.slice (some a) n c→0<n→w.heap.size≤a.block from fun a n c e hn=>Nat.le_trans HC6.out.size (hfr a n c e hn))
   have Hk:=box (strs_keep hks.out (keeps_put_msg (Keeps.refl (fun b=>b=w.heap.size) _) (b:=w.heap.size) rfl (.int .i64 kd) (.int .i64 q) (.int .i64 du) (.int .i64 rt) (.int .i64 rf) (.int .i64 bn) (.string tp) (.string tg) (.string bd) (.slice ka ks.length kcap)) FR.out)
   have Cfin:=box (calm_put_msg (a:=w) HC8.out (b:=w.heap.size) (Nat.le_refl _) (.int .i64 kd) (.int .i64 q) (.int .i64 du) (.int .i64 rt) (.int .i64 rf) (.int .i64 bn) (.string tp) (.string tg) (.string bd) (.slice ka ks.length kcap))
   clear hk7 hc7 hfr hget c0 c1 c2 c3 c4 clt hzl hxk
   have c0:=cell_of J8.out 0
   have c1:=cell_of J8.out 1
   have c2:=cell_of J8.out 2
   have c3:=cell_of J8.out 3
   have c4:=cell_of J8.out 4
   have c5:=cell_of J8.out 5
   have c6:=cell_of J8.out 6
   have c7:=cell_of J8.out 7
   have c8:=cell_of J8.out 8
   have c9:=cell_of J8.out 9
   have clt:=heap_lt J8.out
   have z0:=cell_of Z8.out 0
   have z1:=cell_of Z8.out 1
   have z2:=cell_of Z8.out 2
   have z3:=cell_of Z8.out 3
   have z4:=cell_of Z8.out 4
   have z5:=cell_of Z8.out 5
   have z6:=cell_of Z8.out 6
   have z7:=cell_of Z8.out 7
   have z8:=cell_of Z8.out 8
   have z9:=cell_of Z8.out 9
   have f0:=free_of Z8.out 0
   have f1:=free_of Z8.out 1
   have f2:=free_of Z8.out 2
   have f3:=free_of Z8.out 3
   have f4:=free_of Z8.out 4
   have f5:=free_of Z8.out 5
   have f6:=free_of Z8.out 6
   have f7:=free_of Z8.out 7
   have f8:=free_of Z8.out 8
   have f9:=free_of Z8.out 9
   have hlz:=heap_lt Z8.out
   go_wp2_with fail
   (try simp only[Exit.inBlock,Exit.then])
   refine bodyPost_ret (ret_msg2 rfl _ _ w.heap.size _ rfl Hfin.out rfl) rfl ?_
   exact Hres.out _ _ Cfin.out Hk.out FN.out
theorem Read_any (k:Int) (w:World) (h:Tp W t p n S G w) (ha:Alive S.D):Calls Tryz.prog 34 #[ptrTo t,.int .i64 k] w (ReadT S k w) :=
 (Read_new k w h ha).mono fun _ _ ⟨hc,h⟩=>⟨hc,h.imp id (fun h=>h.imp id (fun ⟨x,h1,h2,kv,h3,h4,_⟩=>⟨x,h1,h2,kv,h3,h4⟩))⟩
end
section
variable {W w w':World} {t p n r sb mb c m:Nat} {D D':DiskS} {R R':RowS} {L:List (Nat×MsgS)} {last:Int} {F F' G G':Nat→Prop} {v v' iv:Value} {S S':TS} {b:List UInt8}
def SyncDone (W:World) (t p n c m:Nat) (S:TS) (G:Nat→Prop) (w:World) (e:Ending) (w':World):Prop :=
 e=.returned (.int .i64 0)∧∃E G',Tp W t p n ⟨E,S.R.clean,S.ps,S.last⟩ G' w'∧Step G w G' w'∧Able E c m∧(∀s,E.bytes s=S.D.bytes s)∧(syncD S.D S.R).2.1=E
theorem Sync_any (w:World) (h:Tp W t p n S G w) (ha:Able S.D c m) (hn:n≤1000000) (hsy:S.R.synced≤S.R.fin) :
  Calls Tryz.prog 23 #[ptrTo t] w (SyncDone W t p n c m S G w):=by
 obtain⟨r,sb,mb,F,v,iv,hT,hG⟩:=h.at_
 obtain⟨E,e1,e2,e3,e4⟩:=h.holds.sync ha hsy
 have H:=box h
 have hs:Box (Calls Tryz.prog 59 #[ptrTo r] w (SyncDone W t p n c m S G w)):=by
  refine box ((Sync_row w hT.seg hn).mono ?_)
  rintro e w' ⟨F',rfl,hS,hT2⟩
  rw[e1]at hS ⊢
  refine⟨rfl,E,tfoot t r sb mb F' v iv,⟨⟨r,sb,mb,F',v,iv,hT.step hS hT2,fun _=>Iff.rfl⟩,e2,H.out.fit,H.out.size,H.out.head,H.out.born⟩,Step.iff (hT.foot_step hT2) hG (fun _=>Iff.rfl),e3,e4,by rw[e1]⟩
 obtain⟨c0,c1,c2,c3,c4,clt⟩:=hT.cells
 clear hT hG h e1 e2 e3 e4 H
 go_enter Tryz.func23,Tryz.ntmps23
 go_wp2_with fail
 refine hs.out.mono ?_
 rintro e w1 ⟨rfl,E,G',h1⟩
 have H1:=box h1
 clear h1 hs
 go_wp2_with fail
 go_ret
 exact⟨rfl,E,G',H1.out⟩
def DropDone (W:World) (t p n c m:Nat) (S:TS) (G:Nat→Prop) (w:World) (e:Ending) (w':World):Prop :=
 (S.R.cnt<2∧e=.returned (.tuple #[.int .i64 0,.int .i64 9])∧∃G',Tp W t p n S G' w'∧Step G w G' w') ∨
 (2≤S.R.cnt∧e=.returned (.tuple #[.int .i64 ((S.R.start+1024:Nat):Int),.int .i64 0])∧∃E G' ps1 ps2,S.ps=ps1++ps2∧(flat ps1).length=1024∧Tp W t p n ⟨E,S.R.rest,ps2,S.last⟩ G' w'∧Step G w G' w'∧Able E c m∧Only S.D E tapeN∧(dropD S.D S.R).2.1=E)
end
section
variable {W w w':World} {t p n r sb mb c m:Nat} {D D' E:DiskS} {R R':RowS} {L:List (Nat×MsgS)} {last:Int} {F F' G G':Nat→Prop} {v v' iv:Value} {S S':TS} {b:List UInt8} {ps:List Pc} {tl:List UInt8}
structure OpenT (W:World) (p n c m:Nat) (E:DiskS) (R:RowS) (ps:List Pc) (F:Nat→Prop) (w:World) (t:Nat) (D':DiskS) (R':RowS) (last:Int) (G':Nat→Prop) (w':World):Prop where
 tp:Tp W t p n ⟨D',R',ps,last⟩ G' w'
 step:Step F w G' w'
 able:Able D' c m
 start:R'.start=R.start
 synced:R'.synced=R'.fin
 fin:R'.fin=R.start+(flat ps).length
 waits:E.waits=[]→D'.waits=[]
 only:Only E D' tapeN
 tight:Tight R→Tight R'
 same:R.start+(flat ps).length=R.fin→∀s,D'.bytes s=E.bytes s
def OpenDone (W:World) (p n c m:Nat) (E:DiskS) (R:RowS) (ps:List Pc) (F:Nat→Prop) (w:World) (e:Ending) (w':World):Prop :=
 ∃t D' R' last G',e=.returned (.tuple #[ptrTo t,.int .i64 0])∧w.heap.size≤t∧OpenT W p n c m E R ps F w t D' R' last G' w'
theorem last_nil {D:DiskS} (h:D.waits=[]) (n:ByteArray):(D.last n).waits=[]:=by
 unfold DiskS.last
 split
 ·exact h
 ·unfold DiskS.without DiskS.turn;simp [h]
theorem lasts_nil (l:List ByteArray):∀ {D:DiskS},D.waits=[]→(l.foldl DiskS.last D).waits=[]:=by
 induction l with
 | nil=>exact fun h=>h
 | cons n l ih=>exact fun h=>ih (last_nil h n)
theorem drops_nil (l:List ByteArray):∀ {D:DiskS},D.waits=[]→(l.foldl DiskS.drop D).waits=[]:=by
 induction l with
 | nil=>exact fun h=>h
 | cons n l ih =>
  intro D h
  refine ih ?_
  unfold DiskS.drop
  split
  ·exact h
  ·unfold DiskS.without;simp [h]
theorem burn_nil {D:DiskS} (h:D.waits=[]):D.burn.waits=[]:=by
 rcases burn_cases D with ⟨_,_,h3,_⟩|⟨_,_,h3,_⟩<;>rw[h3,h]
theorem doing_nil {D:DiskS} (h:D.waits=[]) {f:DiskS→DiskS} (hf:∀D:DiskS,D.waits=[]→(f D).waits=[]):(D.doing f).2.waits=[]:=by
 unfold DiskS.doing
 split
 ·exact burn_nil h
 ·exact hf _ (burn_nil h)
theorem sync_nil {D:DiskS} {R:RowS} (h:D.waits=[]):(syncD D R).2.1.waits=[]:=by
 unfold syncD
 split
 ·exact h
 ·split
  ·exact h
  ·have h1:(D.sync (R.dirty.map (nameB R.head))).2.waits=[]:=by
    unfold DiskS.sync
    split
    ·exact h
    ·exact doing_nil h (fun D hD=>lasts_nil _ hD)
   split
   ·exact h1
   ·exact h1
theorem delete_nil {D:DiskS} (h:D.waits=[]) (l:List ByteArray):(D.delete l).2.waits=[]:=by
 unfold DiskS.delete
 split
 ·exact h
 ·exact doing_nil h (fun D hD=>drops_nil _ hD)
theorem cut_nil1 {D:DiskS} (h:D.waits=[]) (n:ByteArray) (k:Int):(D.cut n k).2.waits=[]:=by
 unfold DiskS.cut
 split
 ·exact h
 ·split
  ·exact h
  ·split
   ·exact h
   ·exact doing_nil h (fun D hD=>last_nil (by unfold DiskS.turn;exact hD) _)
theorem cut_nil {D:DiskS} {R:RowS} (h:D.waits=[]) (k:Int):(cutD D R k).2.1.waits=[]:=by
 have h1:(cutA D R k).2.1.waits=[]:=by
  unfold cutA
  split
  ·exact h
  ·split<;>exact delete_nil h _
 unfold cutD
 split
 ·exact h
 split
 ·exact h
 split
 ·exact h1
 unfold cutB
 split
 ·split<;>exact cut_nil1 h1 _ _
 ·exact h1
theorem sync_opened (hT:TpIn W w t p n r sb mb D R (recs R.start ps) last F v iv) (hB:BornIs (recs R.start ps) last) (hH:Holds D R (flat ps)) (hf:FitL R.start ps) (hz:R.size=1024) (hh:R.head=tapeN) (ha:Able D c m) (hn:n≤1000000) (hsy:R.synced≤R.fin) :
  Calls Tryz.prog 59 #[ptrTo r] w fun e w'=>e=.returned (.int .i64 0)∧∃D' F',Tp W t p n ⟨D',R.clean,ps,last⟩ (tfoot t r sb mb F' v iv) w'∧Step (tfoot t r sb mb F v iv) w (tfoot t r sb mb F' v iv) w'∧Able D' c m∧(∀s,D'.bytes s=D.bytes s)∧(D.waits=[]→D'.waits=[]):=by
 obtain⟨E,e1,e2,e3,e4⟩:=hH.sync ha hsy
 have hw:=fun h=>sync_nil (D:=D) (R:=R) h
 refine(Sync_row w hT.seg hn).mono ?_
 rintro e w' ⟨F',rfl,hS,hT2⟩
 rw[e1]at hS hw ⊢
 exact⟨rfl,E,F',⟨⟨r,sb,mb,F',v,iv,hT.step hS hT2,fun _=>Iff.rfl⟩,e2,hf,hz,hh,hB⟩,hT.foot_step hT2,e3,e4,hw⟩
theorem cut_opened (hT:TpIn W w t p n r sb mb D R (recs R.start ps) last F v iv) (hH:Holds D R (flat ps++tl)) (hz:R.size=1024) (hh:R.head=tapeN) (ha:Able D c m) (hn:n≤1000000) (hst:R.synced=R.start) :
  Calls Tryz.prog 58 #[ptrTo r,.int .i64 ((R.start+(flat ps).length:Nat):Int)] w fun e w'=>e=.returned (.int .i64 0)∧∃D' R' F' v',TpIn W w' t p n r sb mb D' R' (recs R'.start ps) last F' v' iv∧Step (tfoot t r sb mb F v iv) w (tfoot t r sb mb F' v' iv) w'∧Holds D' R' (flat ps)∧Able D' c m∧(R'.size=1024∧R'.head=tapeN∧R'.start=R.start∧R'.synced≤R'.fin∧R'.fin=R.start+(flat ps).length)∧Tight R'∧Only D D' tapeN∧(D.waits=[]→D'.waits=[]):=by
 have hsz:=hH.size
 rw[List.length_append]at hsz
 obtain⟨E,R',e1,e2,e3,e4,e5,e6,e7,e8,e9,e10,e11⟩:=hH.cut ha hT.seg.disk.form (j:=R.start+(flat ps).length) (by omega) (by omega)
 have hw:=fun h=>cut_nil (D:=D) (R:=R) h ((R.start+(flat ps).length:Nat):Int)
 refine(Cut_row ((R.start+(flat ps).length:Nat):Int) w hT.seg hn).mono ?_
 rintro e w' ⟨F',v',rfl,hS,hT2⟩
 rw[e1]at hS hw ⊢
 have hb:(flat ps++tl).take (R.start+(flat ps).length-R.start)=flat ps:=by
  rw[show R.start+(flat ps).length-R.start=(flat ps).length by omega,List.take_left]
 rw[hb]at e2
 refine⟨rfl,E,R',F',v',?_,hT.foot_step hT2,e2,e3,⟨e7.trans hz,e6.trans hh,e8,?_,e10⟩,e5,?_,hw⟩
 ·rw[e8];exact hT.step hS hT2
 ·rw[e9,e10,hst];omega
 ·rw[←hh];exact e4
set_option maxHeartbeats 8000000 in
theorem Open_any (w:World) (hd:DiskOk w p D F n) (ht:Tab W) (hcW:Calm W w) (hfW:∀b,F b→W.heap.size≤b) (hn:n≤1000000) (hfn:∀f∈D.files,f.name.size≤1000000) (hl:D.files.length≤1000000)
  (ho:openD D tapeN 1024=(0,E,R)) (hH:Holds E R (flat ps++tl)) (ha:Able E c m) (hh:R.head=tapeN) (hz:R.size=1024) (hsy:R.synced=R.start) (hf:FitL R.start ps) (hno:NoPc (R.start+(flat ps).length) tl) (hpl:ps.length≤1000000) :
  Calls Tryz.prog 22 #[ptrTo p] w (OpenDone W p n c m E R ps F w):=by
 have hsz:=hH.size
 rw[List.length_append]at hsz
 have hop:=box (sg.Open_any tapeN 1024 w hd ht hcW hfW hn (by decide) hfn hl)
 unfold sg.OpenDone at hop
 simp only[ho]at hop
 have hmm:=@run_makeMap Tryz.prog
 have HH:=box hH
 have HA:=box ha
 have HF:=box hf
 have HN:=box hno
 clear ho hd ht hcW hfW hH ha hf hno
 go_enter Tryz.func22,Tryz.ntmps22
 go_wp2_with fail
 refine hop.out.mono ?_
 rintro e w1 ⟨rv,F1,rfl,hd1,hs1,⟨h0,_⟩|⟨_,r,v,rfl,hr,hS1,hv⟩⟩
 ·exact absurd rfl h0
 have HS1:=box hS1
 have Hs1:=box hs1
 have Hr:=box hr
 have Hv:=box hv
 have hw01:=hs1.keeps.size
 clear hd1 hs1 hr hv hS1 hop
 go_wp2_with fail
 refine(cr.New_any w1).mono ?_
 rintro e w2 ⟨sb,rfl,htab,hsb,hc2⟩
 go_wp2_with fail
 obtain⟨w4,hw4⟩:∃w4,(w2.alloc (.map #[] 0)).alloc (.cells #[ptrTo r,ptrTo sb,.slice none 0 0,.map (some w2.heap.size),.int .i64 0] 122)=w4:=⟨_,rfl⟩
 have hc24:Calm w2 w4:=by rw[←hw4];exact((Calm.refl w2).alloc _).alloc _
 have hobj:w4.heap[w2.heap.size+1]? = some (.cells #[ptrTo r,ptrTo sb,.slice none 0 0,.map (some w2.heap.size),.int .i64 0] 122 (0,0)):=by
  have:=heap_new (w2.alloc (.map #[] 0)) (.cells #[ptrTo r,ptrTo sb,.slice none 0 0,.map (some w2.heap.size),.int .i64 0] 122)
  rw[World.size_alloc]at this
  rw[←hw4];exact this
 have hmap:MapIs w4 w2.heap.size (.int .i64) (([]:List (Nat×MsgS)).map encZ):=by
  rw[←hw4];exact(MapIs.made w2 (.int .i64)).calm ((Calm.refl _).alloc _)
 have hc14:=hc2.trans hc24
 have hW1:=HS1.out.calm.size
 have hw12:=hc2.size
 have hT4:TpIn W w4 (w2.heap.size+1) p n r sb w2.heap.size E R [] 0 F1 v (.slice none 0 0) :=
  ⟨HS1.out.drew hc14,hobj,heap_calm hc24 htab,World.ownsRow_nil _ _ _ _,hmap,(fun b hb=>by cases hb),(fun hf=>by have:=HS1.out.disk.foot_lt _ hf;omega),by omega,by omega,by omega⟩
 have hS4:Step F w (tfoot (w2.heap.size+1) r sb w2.heap.size F1 v (.slice none 0 0)) w4:=by
  refine⟨(Hs1.out.keeps).calm hc14,fun b hb=>?_⟩
  rcases hb with hb|(rfl|hb)|rfl|rfl|rfl|hb
  ·exact Hs1.out.foot b hb
  ·exact .inr Hr.out
  ·exact .inr (Hv.out b hb)
  ·exact .inr (by omega)
  ·exact .inr (by omega)
  ·exact .inr (by omega)
  ·cases hb
 have HT4:=box hT4
 have HS4:=box hS4
 have hsc:=box (scan_any ps tl w4 hT4 HH.out HA.out.alive HF.out hz HN.out hpl)
 have hlt2:w.heap.size≤w2.heap.size+1:=by omega
 rw[show (Value.pointer (some ⟨sb,0,none⟩))=ptrTo sb from rfl,hw4]
 clear hw4 hc24 hobj hmap hc14 hW1 hw12 hT4 hS4 hc2 htab hsb hw01 hmm
 generalize w2.heap.size+1=t at HT4 HS4 hsc hlt2 ⊢
 generalize w2.heap.size=mb at HT4 HS4 hsc ⊢
 refine hsc.out.mono ?_
 rintro e w5 ⟨rfl,iv5,last,hT5,hS5,hB5⟩
 have HT5:=box hT5
 have HS5:=box (Step.trans HS4.out hS5)
 have HB5:=box hB5
 have hend:=box (sg.End_any w5 hT5.seg.row)
 have hfle:R.start+(flat ps).length≤R.fin:=by omega
 have htl:tl=[]↔R.start+(flat ps).length=R.fin:=by
  rw[←List.length_eq_zero_iff];omega
 have Hae:=box (show R.start+(flat ps).length=R.start+(flat ps).length from rfl)
 clear hT5 hS5 hB5 hsc HT4 HS4 hsz
 by_cases he:R.start+(flat ps).length=R.fin
 ·have ht0:=htl.2 he
  subst ht0
  have hh0:=HH.out
  rw[List.append_nil]at hh0
  have hsync:=box (sync_opened HT5.out HB5.out hh0 HF.out hz hh HA.out hn (by omega))
  have He:=box he
  have t1:decide (R.start+(flat ps).length<R.fin)=false:=decide_eq_false (by omega)
  rw[he]at t1 ⊢
  have t2:decide ((R.fin:Int)<(R.fin:Int))=false:=decide_eq_false (by omega)
  clear he htl hfle hh0
  go_wp2_with fail
  refine hend.out.mono ?_
  rintro e w6 ⟨rfl,rfl⟩
  go_wp2_with fail
  refine hsync.out.mono ?_
  rintro e w6 ⟨rfl,D6,F6,hT6,hS6,hA6,hb6,hw6⟩
  have Hres:=box (show OpenDone W p n c m E R ps F w (.returned (.tuple #[ptrTo t,.int .i64 0])) w6 from ⟨t,D6,R.clean,last,_,rfl,hlt2,hT6,Step.trans HS5.out hS6,hA6,rfl,rfl,He.out.symm,hw6,fun s _=>hb6 s,fun h=>h,fun _ s=>hb6 s⟩)
  clear hT6 hS6 hA6 hb6 hw6 hsync hend
  go_wp2_with fail
  go_ret2
  exact Hres.out
 ·have hcut:=box (cut_opened HT5.out HH.out hz hh HA.out hn hsy)
  obtain⟨a,hae⟩:∃a,R.start+(flat ps).length=a:=⟨_,rfl⟩
  rw[hae]at he hcut hfle ⊢
  have t1:decide (a<R.fin)=true:=decide_eq_true (by omega)
  have t2:decide ((a:Int)<(R.fin:Int))=true:=decide_eq_true (by omega)
  have HAE:=box hae
  have Hne:=box he
  clear he htl hae
  go_wp2_with fail
  refine hend.out.mono ?_
  rintro e w6 ⟨rfl,rfl⟩
  go_wp2_with fail
  refine hcut.out.mono ?_
  rintro e w6 ⟨rfl,D6,R6,F6,v6,hT6,hS6,hH6,hA6,⟨z1,z2,z3,z4,z5⟩,hti,hon,hw6⟩
  have hsync:=box (sync_opened hT6 (by rw[z3];exact HB5.out) hH6 (by rw[z3];exact HF.out) z1 z2 hA6 hn z4)
  have HS6:=box (Step.trans HS5.out hS6)
  have Hx:=box (show R6.start=R.start∧R6.fin=a∧Tight R6∧Only E D6 tapeN∧(E.waits=[]→D6.waits=[]) from ⟨z3,z5,hti,hon,hw6⟩)
  clear hT6 hS6 hH6 hA6 z1 z2 z3 z4 z5 hti hon hw6 hcut hend
  go_wp2_with fail
  refine hsync.out.mono ?_
  rintro e w7 ⟨rfl,D7,F7,hT7,hS7,hA7,hb7,hw7⟩
  have Hres:=box (show OpenDone W p n c m E R ps F w (.returned (.tuple #[ptrTo t,.int .i64 0])) w7 from ⟨t,D7,R6.clean,last,_,rfl,hlt2,hT7,Step.trans HS6.out hS7,hA7,Hx.out.1,rfl,Hx.out.2.1.trans HAE.out.symm,fun h=>hw7 (Hx.out.2.2.2.2 h),fun s hs=>(hb7 s).trans (Hx.out.2.2.2.1 s hs),fun _=>Hx.out.2.2.1,fun h=>absurd (HAE.out.symm.trans h) Hne.out⟩)
  clear hT7 hS7 hA7 hb7 hw7 hsync
  go_wp2_with fail
  go_ret2
  exact Hres.out
end
end Go.Proofs.YtiahjipoofeliaaGreatDoor.tp
