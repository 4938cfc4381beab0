/- Lemmas for this claim. -/
import Derived.Lib.Builder
import Derived.Lib.AppendStr
import Derived.Test.YtiahjipoofeliaaGreatDoorPk14
set_option maxRecDepth 100000
namespace Go.Proofs.YtiahjipoofeliaaGreatDoor.oc
open Go.ChangeShapes Go.WideShapes Go.ChangeAt Go.RowKit
abbrev BT:TypeId:=225
theorem sizeB:(Tryz.prog.info? BT).map (·.size)=some 2:=by kernel_rfl
theorem liesB:liesAt Tryz.prog Tryz.prog.depth BT (2 / Tryz.prog.cellsOf BT) 0 BT 1=true:=by kernel_rfl
theorem infoU8:(Tryz.prog.info? 5).map (fun i=>(i.zero,i.size,i.bytes))=some (some (.int .u8 0),1,1):=by kernel_rfl
set_option maxHeartbeats 1000000 in
theorem copyCheck_any (B b:Nat) (bs:List Value) (w:World) (h:Lib.IsBuilder BT 5 B b bs w) :
  Calls Tryz.prog 212 #[.pointer (some ⟨b,0,none⟩)] w fun e w'=>e=.returned (.tuple #[])∧Lib.BuilderAt BT 5 B b (.pointer (some ⟨b,0,none⟩)) bs w'∧Below B w w':=by
 obtain⟨j,hj,hjs⟩:=Option.map_eq_some_iff.1 sizeB
 rcases h with h|h
 ·have H:=box h
  have h0:=h.cell0
  have hfz:=h.frozen0
  have hsh:=box h.shape
  clear h
  go_enter Tryz.func212,Tryz.ntmps212
  go_wp2
  rw[Lib.run_to_unsafe w ⟨b,0,none⟩ Tryz.underlying223 Tryz.underlying279 hj (by rw[hjs];decide) hsh.out (Nat.zero_lt_succ 1)]
  simp only[Result.andThen]
  rw[Oper.upon_value]
  go_wp2
  rw[run_callFunc_extern Tryz.func240 (by kernel_rfl) (by kernel_rfl) (by kernel_rfl) (e:=Extern.AbiNoEscape.same) (by kernel_rfl)]
  rw[Lib.run_noEscape]
  simp only[Result.andThen]
  rw[Oper.upon_value]
  go_wp2
  rw[Lib.run_from_unsafe w ⟨b,0,none⟩ Tryz.underlying279 Tryz.underlying223 hj hsh.out liesB]
  simp only[Result.andThen]
  rw[Oper.upon_value]
  go_wp2
  go_end0
  exact⟨rfl,H.out.used _,(Below.refl B w).setCell (p:=⟨b,0,none⟩) H.out.1 _⟩
 ·have H:=box h
  have h0:=h.cell0
  clear h
  go_enter Tryz.func212,Tryz.ntmps212
  go_wp2
  rw[Lib.run_neq_ptr_same w _ Tryz.underlying223 hj]
  go_wp2
  go_end0
  exact⟨rfl,H.out,Below.refl B _⟩
set_option maxHeartbeats 2000000 in
theorem WriteString_any (B b:Nat) (bs:List Value) (s:ByteArray) (w:World) (h:Lib.IsBuilder BT 5 B b bs w) (hlen:bs.length+s.size≤140737488355328) (hBw:B≤w.heap.size) :
  Calls Tryz.prog 177 #[.pointer (some ⟨b,0,none⟩),.string s] w fun e w'=>e=.returned (.tuple #[.int .i64 s.size,.nilIface])∧Lib.BuilderAt BT 5 B b (.pointer (some ⟨b,0,none⟩)) (bs++Lib.strCells s) w'∧Below B w w':=by
 obtain⟨i0,hi,hz0,hz1,hz2⟩:=info_parts infoU8
 have hcc:=box (copyCheck_any B b bs w h)
 clear h
 go_enter Tryz.func177,Tryz.ntmps177
 go_wp2_with fail
 refine hcc.out.mono ?_
 rintro e w1 ⟨rfl,h1,hb1⟩
 obtain⟨hB,v,hbk,hown,hne⟩:=h1
 have c0:w1.cell? ⟨b,0,none⟩=some (.pointer (some ⟨b,0,none⟩)):=cell_of hbk 0
 have c1:w1.cell? ⟨b,1,none⟩=some v:=cell_of hbk 1
 go_wp2_with (at_builtin;refine Lib.wpList_append_own_string _ rfl _ _ 130 9 rfl B 5 i0 Tryz.underlying130 Tryz.underlying9 hi hz0 hz1 hz2 _ _ _ rfl hown s rfl ?c3 ?c4 ?c5 ?_)
 case c3=>unfold maxLen;omega
 case c4=>omega
 case c5=>have:=hb1.size;omega
 intro v' w2 hown' hgrow _
 have hlt:b<w1.heap.size:=heap_lt hbk
 have hb2:w2.heap[b]? = some (.cells #[.pointer (some ⟨b,0,none⟩),v] BT (0,0)):=by
  rw[hgrow.block b hlt (fun e=>hne e.symm)]
  exact hbk
 have d0:w2.cell? ⟨b,0,none⟩=some (.pointer (some ⟨b,0,none⟩)):=cell_of hb2 0
 have d1:w2.cell? ⟨b,1,none⟩=some v:=cell_of hb2 1
 have f1:w2.frozen? ⟨b,1,none⟩=false:=free_of hb2 1
 obtain⟨ao,n',cap,rfl⟩:∃ao n' cap,v'=.slice ao n' cap:=by
  rcases hown'.2 with ⟨hv,_⟩|⟨g,cap,cur,hv,_⟩
  ·exact⟨_,_,_,hv⟩
  ·exact⟨_,_,_,hv⟩
 go_wp2
 go_ret2
 refine⟨rfl,?_,?_⟩
 ·exact Lib.BuilderAt.put (T:=BT) (e:=5) hB hb2 (bs':=bs++Lib.strCells s) (by simpa [Lib.strCells_length] using hown') (by decide)
 ·exact(hb1.grown hgrow (by have:=hb1.size;omega) (fun k hk=>(hown.lt k hk).1)).setCell (p:=⟨b,1,none⟩) hB _
def fitsN (n:Nat) (x:Int):Bool:=decide (0≤x) && decide (x<256 ^ n)
def lowN (n:Nat) (l:List Int):List UInt8:=l.flatMap fun x=>low n x.toNat
def numB (n:Int) (l:List Int):ByteArray×Int :=
  if n<1∨7<n then (⟨#[]⟩,1) else if l.all (fitsN n.toNat) then (⟨(lowN n.toNat l).toArray⟩,0) else (⟨#[]⟩,2)
theorem fits_div (m:Nat) (h1:1≤m) (h7:m≤7) (x:Int):fitsN m x=(decide (0≤x) && !(x / 2 ^ (8 * m) != 0)):=by
  have hc:m=1∨m=2∨m=3∨m=4∨m=5∨m=6∨m=7:=by omega
  unfold fitsN
  rw[Bool.eq_iff_iff]
  rcases hc with rfl|rfl|rfl|rfl|rfl|rfl|rfl<;>simp<;>omega
theorem low_size (n x:Nat):(⟨(low n x).toArray⟩:ByteArray).size=n:=by show (low n x).toArray.size=n;simp [low_length]
theorem lowN_length (n:Nat) (l:List Int):(lowN n l).length=l.length * n:=by
  unfold lowN
  induction l with
  | nil=>simp
  | cons x l ih=>rw[List.flatMap_cons,List.length_append,low_length,ih,List.length_cons,Nat.succ_mul,Nat.add_comm]
theorem lowN_snoc (n:Nat) (l:List Int) (k:Nat) (hk:k<l.length):lowN n (l.take (k+1))=lowN n (l.take k)++low n l[k].toNat:=by
  unfold lowN;rw[List.take_succ_eq_append_getElem hk,List.flatMap_append];simp
theorem _root_.Go.Lib.BuilderAt.calm' {T e:TypeId} {B b:Nat} {p:Value} {bs:List Value} {w w':World} (h:Lib.BuilderAt T e B b p bs w) (hc:Calm w w'):Lib.BuilderAt T e B b p bs w':=by
  obtain⟨hB,v,hb,hrow,hne⟩:=h
  refine⟨hB,v,heap_calm hc hb,?_,hne⟩
  obtain⟨h1,h2⟩:=hrow
  refine⟨h1,?_⟩
  rcases h2 with h2|⟨g,cap,cur,e1,r1,r2,r3⟩
  · exact .inl h2
  · exact .inr ⟨g,cap,cur,e1,r1,heap_calm hc r2,r3⟩
theorem _root_.Go.Lib.IsBuilder.calm' {T e:TypeId} {B b:Nat} {bs:List Value} {w w':World} (h:Lib.IsBuilder T e B b bs w) (hc:Calm w w'):Lib.IsBuilder T e B b bs w':=h.imp (·.calm' hc) (·.calm' hc)
def IntsAt (w:World) (a:Option Addr) (l:List Int):Prop:=∀k (hk:k<l.length),∃b off,a=some ⟨b,off,none⟩∧b<w.heap.size∧w.cell? ⟨b,off+k,none⟩=some (.int .i64 l[k])
theorem IntsAt.below {w w':World} {a:Option Addr} {l:List Int} {B:Nat} (h:IntsAt w a l) (hB:w.heap.size=B) (hc:Below B w w'):IntsAt w' a l:=fun k hk=>by
  obtain⟨b,off,e,hb,hcell⟩:=h k hk
  exact⟨b,off,e,Nat.lt_of_lt_of_le hb (by have:=hc.size;omega),by rw[hc.cell (p:=⟨b,off+k,none⟩) (by show b<B;omega)];exact hcell⟩
set_option maxHeartbeats 4000000 in
theorem Num_any (n : Int) (a : Option Addr) (cap : Nat) (l : List Int) (w : World) (h : IntsAt w a l) (hl : l.length ≤ 1000000) (hi : ∀ x ∈ l, -9223372036854775808 ≤ x ∧ x ≤ 9223372036854775807) :
    Calls Tryz.prog 135 #[.int .i64 n,.slice a l.length cap] w fun e w'=>e=.returned (.tuple #[.string (numB n l).1,.int .i64 (numB n l).2])∧Calm w w':=by
  by_cases hn:n<1∨7<n
  · have hr := box (show numB n l = (⟨#[]⟩, 1) by unfold numB; rw [if_pos hn])
    rw[hr.out]
    have hn':n<1∨(1≤n∧7<n):=by omega
    clear hn
    rcases hn' with h1|⟨h1,h2⟩
    all_goals
      go_enter Tryz.func135,Tryz.ntmps135
      go_wp2_with fail
      go_ret2
      exact⟨rfl,.refl _⟩
  · obtain ⟨m, rfl⟩ : ∃ m : Nat, n = m := ⟨n.toNat, by omega⟩
    have hm1:1≤m:=by omega
    have hm7:m≤7:=by omega
    have hr:=box (show numB m l=if l.all (fitsN m) then (⟨(lowN m l).toArray⟩,0) else (⟨#[]⟩,2) by unfold numB;rw[if_neg hn];rfl)
    have H:=box h
    have Hi:=box hi
    clear h hi hn
    go_enter Tryz.func135,Tryz.ntmps135
    go_wp2_with fail
    go_loopw [17] (fun i wr=>∃k:Nat,k≤l.length∧i=.int .i64 k∧(l.take k).all (fitsN m)=true∧Lib.IsBuilder BT 5 w.heap.size w.heap.size (Lib.byteCells (lowN m (l.take k))) wr∧Calm w wr) (fun i _=>l.length-(intOf i).toNat)
    case atStart =>
      exact⟨0,Nat.zero_le _,rfl,rfl,.inl ⟨Nat.le_refl _,.slice none 0 0,heap_new w _,World.ownsRow_nil _ _ _ _,by simp [Value.ownBlock]⟩,(Calm.refl w).alloc _⟩
    case round =>
      obtain⟨k,hk,rfl,hall,hB,hC⟩:=hrel
      have Hall:=box hall
      have HB:=box hB
      have HC:=box hC
      clear hall hB hC
      by_cases hlt:k<l.length
      · obtain ⟨b, off, rfl, hb, hcell⟩ := H.out.below rfl HC.out k hlt
        obtain⟨x,hx⟩:∃x,l[k]=x:=⟨_,rfl⟩
        obtain⟨hx1,hx2⟩:=Hi.out l[k] (List.getElem_mem hlt)
        have hsn:=box (lowN_snoc m l k hlt)
        have has:=box (show (l.take (k+1)).all (fitsN m)=((l.take k).all (fitsN m) && fitsN m l[k]) by rw[List.take_succ_eq_append_getElem hlt,List.all_append];simp)
        rw[hx]at hcell hx1 hx2 hsn has
        have q8:IntKind.i64.wrap (8 * (m:Int))=8 * m:=IntWalk.i64_in _ (by omega)
        have hfd:=box (fits_div m hm1 hm7 x)
        have hbad:=box (fun (hf:fitsN m x=false)=>(show numB m l=(⟨#[]⟩,2) by
          rw[hr.out,if_neg]
          rw[List.all_eq_true]
          intro hh
          have:=hh l[k] (List.getElem_mem hlt)
          rw[hx,hf]at this
          cases this))
        have hlen:=box (lowN_length m (l.take k))
        clear hx
        go_wp2_with fail
        all_goals first
          | (have hh : x < 0 ∨ (x / 2 ^ (8 * m) != 0) = true := by first | assumption | exact .inl (by assumption)
             have hb2:=hbad.out (by rw[hfd.out];rcases hh with h|h;rw[decide_eq_false (by omega)];rfl;rw[h];simp)
             go_ret2
             exact⟨ret_tup2 (by rw[hb2];rfl) (by rw[hb2];rfl),HC.out⟩)
          | skip
        have hok:=box (show fitsN m x=true by
          have hh:0≤x∧(x / 2 ^ (8 * m) != 0)=false:=by assumption
          rw[hfd.out,hh.2,decide_eq_true hh.1];rfl)
        have hx0:0≤x:=by have:=hok.out;unfold fitsN at this;simp at this;exact this.1
        obtain⟨y,rfl⟩:∃y:Nat,x=y:=⟨x.toNat,by omega⟩
        refine(put_any m y _ (by omega) (by omega)).mono ?_
        rintro e w2 ⟨rfl,hc2⟩
        have HB2:=box (HB.out.calm' hc2)
        have HC2:=box (HC.out.trans hc2)
        clear hc2
        go_wp2_with fail
        refine(WriteString_any w.heap.size w.heap.size _ ⟨(low m y).toArray⟩ _ HB2.out (by rw[Lib.byteCells_length,hlen.out,low_size,List.length_take];have:min k l.length * m≤1000000 * 7:=Nat.mul_le_mul (by omega) (by omega);omega) (by exact HC2.out.size)).mono ?_
        rintro e w3 ⟨rfl,hb3,hc3⟩
        have HB3:=box hb3
        have HC3:=box (Below.trans HC2.out hc3)
        clear hb3 hc3
        go_wp2_with fail
        go_roundw
        case rel =>
          refine⟨k+1,by omega,by go_num,by rw[has.out,Hall.out,hok.out];rfl,?_,HC3.out⟩
          rw[hsn.out,Lib.byteCells_append]
          exact .inr HB3.out
        case measure=>simp [intOf];omega
      · obtain rfl : k = l.length := by omega
        have hr:=box (show numB m l=(⟨(lowN m l).toArray⟩,0) by
          have:=Hall.out
          rw[List.take_length]at this
          rw[hr.out,if_pos this])
        have HB:=box (show Lib.IsBuilder BT 5 w.heap.size w.heap.size (Lib.byteCells (lowN m l)) wr by have:=HB.out;rw[List.take_length]at this;exact this)
        go_wp2_with fail
        refine(Tryz.Builder_String_any w.heap.size w.heap.size _ wr HB.out (by exact HC.out.size)).mono ?_
        rintro e w2 ⟨rfl,hc2⟩
        have HC2:=box (Below.trans HC.out hc2)
        clear hc2
        go_wp2_with fail
        go_ret2
        exact⟨ret_tup2 (by rw[hr.out];rfl) (by rw[hr.out];rfl),HC2.out⟩
end Go.Proofs.YtiahjipoofeliaaGreatDoor.oc

namespace Go.Proofs.YtiahjipoofeliaaGreatDoor.oc
open Go.RowKit
def textL (s:ByteArray):List UInt8:=low 2 s.size++s.data.toList
def textsL (l:List ByteArray):List UInt8:=l.flatMap textL
abbrev shortB (s:ByteArray):Bool:=decide (s.size≤65535)
def textsB (l:List ByteArray):ByteArray×Int:=if l.all shortB then (⟨(textsL l).toArray⟩,0) else (⟨#[]⟩,6)
def listB (l:List ByteArray):ByteArray×Int:=if 255<l.length then (⟨#[]⟩,6) else if l.all shortB then (⟨(low 1 l.length++textsL l).toArray⟩,0) else (⟨#[]⟩,6)
theorem textL_length (s:ByteArray):(textL s).length=2+s.size:=by unfold textL;rw[List.length_append,low_length,size_toList]
theorem textsL_snoc (l:List ByteArray) (k:Nat) (hk:k<l.length):textsL (l.take (k+1))=textsL (l.take k)++textL l[k]:=by
 unfold textsL;rw[List.take_succ_eq_append_getElem hk,List.flatMap_append];simp
theorem textsL_length:∀l:List ByteArray,l.all shortB=true→(textsL l).length≤l.length * 65537
 | [],_=>by simp [textsL]
 | s :: l,h=>by
  rw[List.all_cons,Bool.and_eq_true]at h
  have h1:s.size≤65535:=of_decide_eq_true h.1
  have h2:=textsL_length l h.2
  have h3:textsL (s :: l)=textL s++textsL l:=by unfold textsL;rw[List.flatMap_cons]
  rw[h3,List.length_append,textL_length,List.length_cons]
  omega
theorem take_left (R:Rdr) (n:Int):(R.take n).2.s.size≤R.s.size:=by
 unfold Rdr.take
 split;exact Nat.le_refl _
 split;exact Nat.le_refl _
 split;exact Nat.le_refl _
 simp only[ByteArray.size_extract];omega
theorem num_left (R:Rdr) (n:Int):(R.num n).2.s.size≤R.s.size:=by
 unfold Rdr.num
 split;exact Nat.le_refl _
 split;exact Nat.le_refl _
 exact take_left R n
theorem num_small (R:Rdr) (n:Int):0≤(R.num n).1∧(R.num n).1<72057594037927936:=by
 unfold Rdr.num
 split;exact⟨Int.le_refl _,by simp⟩
 split;exact⟨Int.le_refl _,by simp⟩
 rename_i _ hn
 have h1:=take_size R n (by omega)
 have h2:=getN_take (R.take n).1.data.toList (R.take n).1.data.toList.length (Nat.le_refl _)
 rw[List.take_length,size_toList]at h2
 have h3:256 ^ (R.take n).1.size≤256 ^ 7:=Nat.pow_le_pow_right (by decide) h1
 have h4:(256:Nat) ^ 7=72057594037927936:=by decide
 simp only
 omega
def Rdr.end_ (R:Rdr):Int:=if R.e≠0 then R.e else if R.s.size=0 then 0 else 4
def Rdr.text (R:Rdr) (most:Int):ByteArray×Rdr :=
 if R.e≠0 then (⟨#[]⟩,R) else
 let a:=R.num 2
 let t:=(if a.2.e=0∧most<a.1 then (⟨a.2.s,6⟩:Rdr) else a.2).take a.1
 if t.2.e≠0 then (t.1,⟨R.s,t.2.e⟩) else t
def Rdr.texts (R:Rdr) (most:Int):Nat→List ByteArray×Rdr
 | 0=>([],R)
 | k+1=>((R.texts most k).1++[((R.texts most k).2.text most).1],((R.texts most k).2.text most).2)
def Rdr.list (R:Rdr) (many most:Int):List ByteArray×Rdr :=
 if R.e≠0 then ([],R) else
 let a:=R.num 1
 let t:=(if a.2.e=0∧many<a.1 then (⟨a.2.s,6⟩:Rdr) else a.2).texts most a.1.toNat
 if t.2.e≠0 then ([],⟨R.s,t.2.e⟩) else t
end Go.Proofs.YtiahjipoofeliaaGreatDoor.oc

namespace Go.Proofs.YtiahjipoofeliaaGreatDoor.rc
open Go.RowKit
structure MsgS where
 kind:Int
 queue:Int
 due:Int
 retry:Int
 ref:Int
 born:Int
 topic:ByteArray
 tag:ByteArray
 body:ByteArray
 keys:List ByteArray
abbrev msgA (m:MsgS) (kv:Value):Array Value:=#[.int .i64 m.kind,.int .i64 m.queue,.int .i64 m.due,.int .i64 m.retry,.int .i64 m.ref,.int .i64 m.born,.string m.topic,.string m.tag,.string m.body,kv]
def zerosB (n:Nat):ByteArray:=⟨(List.replicate n (0:UInt8)).toArray⟩
theorem zerosB_size (n:Nat):(zerosB n).size=n:=by show (List.replicate n (0:UInt8)).toArray.size=n;simp
theorem zeros_iff (b:ByteArray):b=zerosB b.size↔b.data.toList.all (· == 0)=true:=by
 constructor
 ·intro h
  rw[h]
  unfold zerosB
  simp
 ·intro h
  apply ba_ext
  unfold zerosB
  simp only
  have:b.data.toList=List.replicate b.data.toList.length 0:=List.eq_replicate_iff.2 ⟨rfl,fun x hx=>by have:=List.all_eq_true.1 h x hx;simpa using this⟩
  rw[size_toList]at this
  exact this
end Go.Proofs.YtiahjipoofeliaaGreatDoor.rc

namespace Go.Proofs.YtiahjipoofeliaaGreatDoor.oc
open Go.RowKit
theorem getN_app (a b:List UInt8):getN (a++b)=getN a * 256 ^ b.length+getN b:=by
 induction b generalizing a with
 | nil=>simp [getN]
 | cons c b ih =>
  rw[show a++c :: b=(a++[c])++b by simp,ih,getN_snoc,show c :: b=[c]++b from rfl,ih [c]]
  have:getN [c]=c.toNat:=by simp [getN]
  rw[this,List.length_append,List.length_singleton,Nat.add_comm 1,Nat.pow_succ,Nat.add_mul,Nat.mul_comm 256 (getN a),Nat.mul_assoc,Nat.mul_comm 256]
  omega
theorem low_cut:∀(m n:Nat),m≤n→∀x,low m x=low m (x%256 ^ n):=fun m=>by
 induction m with
 | zero=>intro n _ x;rfl
 | succ m ih =>
  intro n hm x
  unfold low
  rw[ih n (by omega) x]
  congr 1
  have:x%256 ^ n / 256 ^ m%256=x / 256 ^ m%256:=by
   obtain⟨d,rfl⟩:∃d,n=m+1+d:=⟨n-(m+1),by omega⟩
   have e:256 ^ (m+1+d)=256 ^ m * (256 * 256 ^ d):=by rw[Nat.pow_add,Nat.pow_succ,Nat.mul_assoc]
   rw[e,Nat.mod_mul_right_div_self,Nat.mod_mul_right_mod]
  apply UInt8.toNat_inj.1
  simp [this]
theorem getN_lt (l:List UInt8):getN l<256 ^ l.length:=by
 have:=getN_take l l.length (Nat.le_refl _)
 rwa[List.take_length]at this
theorem low_getN:∀(l:List UInt8),low l.length (getN l)=l
 | []=>rfl
 | b :: l=>by
  have e:getN (b :: l)=b.toNat * 256 ^ l.length+getN l:=by
   rw[show b :: l=[b]++l from rfl,getN_app,show getN [b]=b.toNat by simp [getN]]
  have hl:=getN_lt l
  have hp:0<256 ^ l.length:=Nat.pow_pos (by decide)
  rw[List.length_cons,low,e]
  rw[low_cut l.length l.length (Nat.le_refl _) (b.toNat * 256 ^ l.length+getN l),Nat.mul_comm,Nat.mul_add_mod,Nat.mod_eq_of_lt hl,low_getN l,Nat.mul_add_div hp,Nat.div_eq_of_lt hl,Nat.add_zero]
  simp
structure Over (R R':Rdr) (l:List UInt8):Prop where
 ok:R.e=0
 ok':R'.e=0
 bytes:R.s.data.toList=l++R'.s.data.toList
theorem Over.trans {R R' R'':Rdr} {l m:List UInt8} (h:Over R R' l) (g:Over R' R'' m):Over R R'' (l++m) :=
 ⟨h.ok,g.ok',by rw[h.bytes,g.bytes,List.append_assoc]⟩
theorem take_over {R:Rdr} {n:Int} (h:(R.take n).2.e=0):Over R (R.take n).2 (R.take n).1.data.toList∧((R.take n).1.size:Int)=n:=by
 unfold Rdr.take at h ⊢
 by_cases h1:R.e≠0
 ·rw[if_pos h1]at h;exact absurd h h1
 rw[if_neg h1]at h ⊢
 by_cases h2:n<0
 ·rw[if_pos h2]at h;cases h
 rw[if_neg h2]at h ⊢
 by_cases h3:(R.s.size:Int)<n
 ·rw[if_pos h3]at h;cases h
 rw[if_neg h3]
 refine⟨⟨by simpa using h1,rfl,?_⟩,?_⟩
 ·simp only[ByteArray.data_extract,Array.toList_extract,List.extract_eq_take_drop,List.drop_zero,Nat.sub_zero]
  rw[List.take_of_length_le (l:=List.drop _ _) (by rw[List.length_drop,size_toList];exact Nat.le_refl _),List.take_append_drop]
 ·simp only[ByteArray.size_extract];omega
theorem num_over {R:Rdr} {n:Nat} (h1:1≤n) (h7:n≤7) (h:(R.num n).2.e=0):Over R (R.num n).2 (low n (R.num n).1.toNat):=by
 unfold Rdr.num at h ⊢
 by_cases h0:R.e≠0
 ·rw[if_pos h0]at h;exact absurd h h0
 rw[if_neg h0]at h ⊢
 rw[if_neg (by omega)]at h ⊢
 obtain⟨ho,hn⟩:=take_over h
 have e:low n (getN (R.take n).1.data.toList)=(R.take n).1.data.toList:=by
  have hl:(R.take n).1.data.toList.length=n:=by rw[size_toList];omega
  have:=low_getN (R.take n).1.data.toList
  rwa[hl]at this
 simp only[Int.toNat_natCast]
 rw[e]
 exact ho
theorem text_over {R:Rdr} {most:Int} (h:(R.text most).2.e=0):Over R (R.text most).2 (textL (R.text most).1)∧((R.text most).1.size:Int)≤most:=by
 unfold Rdr.text at h ⊢
 by_cases h0:R.e≠0
 ·rw[if_pos h0]at h;exact absurd h h0
 rw[if_neg h0]at h ⊢
 simp only at h ⊢
 by_cases ht:((if (R.num 2).2.e=0∧most<(R.num 2).1 then (⟨(R.num 2).2.s,6⟩:Rdr) else (R.num 2).2).take (R.num 2).1).2.e≠0
 ·rw[if_pos ht]at h;exact absurd h ht
 rw[if_neg ht]at h ⊢
 by_cases hc:(R.num 2).2.e=0∧most<(R.num 2).1
 ·rw[if_pos hc]at h
  have:=(take_over h).1.ok
  cases this
 rw[if_neg hc]at h ⊢
 obtain⟨ho,hn⟩:=take_over h
 have hm:(R.num 2).1≤most:=by
  have:¬most<(R.num 2).1:=fun hh=>hc ⟨ho.ok,hh⟩
  omega
 have h2:=num_over (R:=R) (n:=2) (by decide) (by decide) ho.ok
 refine⟨?_,by omega⟩
 have:=h2.trans ho
 unfold textL
 rwa[show (R.num ((2:Nat):Int)).1.toNat=((R.num 2).2.take (R.num 2).1).1.size by
  show (R.num 2).1.toNat=_
  omega]at this
theorem texts_over {R:Rdr} {most:Int}:∀k:Nat,(R.texts most k).2.e=0→Over R (R.texts most k).2 (textsL (R.texts most k).1)∧(R.texts most k).1.length=k∧∀s∈(R.texts most k).1,(s.size:Int)≤most
 | 0,h=>⟨⟨h,h,rfl⟩,rfl,fun s hs=>by cases hs⟩
 | k+1,h=>by
  simp only[Rdr.texts]at h ⊢
  obtain⟨ho,hsz⟩:=text_over h
  obtain⟨ho2,hl,hall⟩:=texts_over k ho.ok
  refine⟨?_,by rw[List.length_append,hl];rfl,fun s hs=>?_⟩
  ·have:=ho2.trans ho
   unfold textsL
   rw[List.flatMap_append]
   simpa [textsL] using this
  ·rcases List.mem_append.1 hs with hs|hs
   ·exact hall s hs
   ·rw[List.mem_singleton.1 hs];exact hsz
theorem list_over {R:Rdr} {many most:Int} (h:(R.list many most).2.e=0) :
  Over R (R.list many most).2 (low 1 (R.list many most).1.length++textsL (R.list many most).1)∧((R.list many most).1.length:Int)≤many∧∀s∈(R.list many most).1,(s.size:Int)≤most:=by
 unfold Rdr.list at h ⊢
 by_cases h0:R.e≠0
 ·rw[if_pos h0]at h;exact absurd h h0
 rw[if_neg h0]at h ⊢
 simp only at h ⊢
 by_cases ht:((if (R.num 1).2.e=0∧many<(R.num 1).1 then (⟨(R.num 1).2.s,6⟩:Rdr) else (R.num 1).2).texts most (R.num 1).1.toNat).2.e≠0
 ·rw[if_pos ht]at h;exact absurd h ht
 rw[if_neg ht]at h ⊢
 by_cases hc:(R.num 1).2.e=0∧many<(R.num 1).1
 ·rw[if_pos hc]at h
  have:=(texts_over _ h).1.ok
  cases this
 rw[if_neg hc]at h ⊢
 obtain⟨ho,hl,hall⟩:=texts_over _ h
 have hm:(R.num 1).1≤many:=by
  have:¬many<(R.num 1).1:=fun hh=>hc ⟨ho.ok,hh⟩
  omega
 have h1:=num_over (R:=R) (n:=1) (by decide) (by decide) ho.ok
 have hp:=(num_small R 1).1
 refine⟨?_,by rw[hl];omega,hall⟩
 have:=h1.trans ho
 rw[hl]
 exact this
theorem bytes_mk (b:ByteArray):(⟨b.data.toList.toArray⟩:ByteArray)=b:=by apply ba_ext;simp
theorem take_back (a rest:List UInt8):(⟨⟨(a++rest).toArray⟩,0⟩:Rdr).take a.length=(⟨a.toArray⟩,⟨⟨rest.toArray⟩,0⟩):=by
 have hsz:(⟨(a++rest).toArray⟩:ByteArray).size=a.length+rest.length:=by show (a++rest).toArray.size=_;simp
 unfold Rdr.take
 rw[if_neg (fun h=>h rfl),if_neg (by omega),if_neg (by rw[hsz];omega)]
 simp only[Int.toNat_natCast]
 rw[hsz]
 congr 1
 ·apply ba_ext
  simp
 ·congr 1
  apply ba_ext
  simp
theorem num_back (n x:Nat) (h1:1≤n) (h7:n≤7) (hx:x<256 ^ n) (rest:List UInt8):(⟨⟨(low n x++rest).toArray⟩,0⟩:Rdr).num n=((x:Int),⟨⟨rest.toArray⟩,0⟩):=by
 have ht:=take_back (low n x) rest
 rw[low_length]at ht
 unfold Rdr.num
 rw[if_neg (fun h=>h rfl),if_neg (by omega),ht]
 have:getN (low n x)=x:=by
  have h:=low_getN (low n x)
  rw[low_length]at h
  have hl:=getN_lt (low n x)
  rw[low_length]at hl
  exact low_inj n _ _ hl hx h
 simp only[this]
where
 low_inj:∀(n x y:Nat),x<256 ^ n→y<256 ^ n→low n x=low n y→x=y
  | 0,x,y,hx,hy,_=>by simp at hx hy;omega
  | n+1,x,y,hx,hy,h=>by
   simp only[low,List.cons.injEq]at h
   obtain⟨h1,h2⟩:=h
   have hp:0<256 ^ n:=Nat.pow_pos (by decide)
   have hdx:x / 256 ^ n<256:=by rw[Nat.div_lt_iff_lt_mul hp];rw[Nat.pow_succ,Nat.mul_comm]at hx;exact hx
   have hdy:y / 256 ^ n<256:=by rw[Nat.div_lt_iff_lt_mul hp];rw[Nat.pow_succ,Nat.mul_comm]at hy;exact hy
   have e1:x / 256 ^ n=y / 256 ^ n:=by
    have:=congrArg UInt8.toNat h1
    simpa [Nat.mod_eq_of_lt hdx,Nat.mod_eq_of_lt hdy] using this
   rw[low_cut n n (Nat.le_refl _) x,low_cut n n (Nat.le_refl _) y]at h2
   have e2:=low_inj n _ _ (Nat.mod_lt x hp) (Nat.mod_lt y hp) h2
   have dx:=Nat.div_add_mod x (256 ^ n)
   have dy:=Nat.div_add_mod y (256 ^ n)
   rw[e1,e2]at dx
   omega
theorem text_back (t:ByteArray) (most:Int) (h:(t.size:Int)≤most) (h16:t.size≤65535) (rest:List UInt8):(⟨⟨(textL t++rest).toArray⟩,0⟩:Rdr).text most=(t,⟨⟨rest.toArray⟩,0⟩):=by
 have hn:=num_back 2 t.size (by decide) (by decide) (by show t.size<65536;omega) (t.data.toList++rest)
 have ht:=take_back t.data.toList rest
 rw[size_toList,bytes_mk]at ht
 unfold Rdr.text textL
 rw[List.append_assoc]
 rw[if_neg (fun h=>h rfl)]
 simp only
 rw[show ((2:Nat):Int)=2 from rfl]at hn
 rw[hn]
 simp only
 rw[if_neg (show ¬(True∧most<(t.size:Int)) from fun hh=>by omega),ht,if_neg (fun h=>h rfl)]
theorem texts_back (l:List ByteArray) (most:Int) (h:∀t∈l,(t.size:Int)≤most∧t.size≤65535) (rest:List UInt8):∀k,k≤l.length→(⟨⟨(textsL l++rest).toArray⟩,0⟩:Rdr).texts most k=(l.take k,⟨⟨(textsL (l.drop k)++rest).toArray⟩,0⟩)
 | 0,_=>by simp [Rdr.texts]
 | k+1,hk=>by
  have ih:=texts_back l most h rest k (by omega)
  have hd:l.drop k=l[k]'(by omega) :: l.drop (k+1):=(List.drop_eq_getElem_cons (by omega))
  have ht:=h (l[k]'(by omega)) (List.getElem_mem _)
  simp only[Rdr.texts,ih]
  rw[hd]
  have e:textsL (l[k]'(by omega) :: l.drop (k+1))++rest=textL (l[k]'(by omega))++(textsL (l.drop (k+1))++rest):=by unfold textsL;rw[List.flatMap_cons,List.append_assoc]
  rw[e,text_back _ most ht.1 ht.2,List.take_succ_eq_append_getElem (by omega)]
theorem list_back (l:List ByteArray) (many most:Int) (hl:(l.length:Int)≤many) (h255:l.length≤255) (h:∀t∈l,(t.size:Int)≤most∧t.size≤65535) (rest:List UInt8) :
  (⟨⟨(low 1 l.length++textsL l++rest).toArray⟩,0⟩:Rdr).list many most=(l,⟨⟨rest.toArray⟩,0⟩):=by
 have hn:=num_back 1 l.length (by decide) (by decide) (by show l.length<256;omega) (textsL l++rest)
 have ht:=texts_back l most h rest l.length (Nat.le_refl _)
 unfold Rdr.list
 rw[List.append_assoc]
 rw[if_neg (fun h=>h rfl)]
 simp only
 rw[show ((1:Nat):Int)=1 from rfl]at hn
 rw[hn]
 simp only[Int.toNat_natCast]
 rw[if_neg (show ¬(True∧many<(l.length:Int)) from fun hh=>by omega),ht,if_neg (fun h=>h rfl)]
 simp [textsL]
end Go.Proofs.YtiahjipoofeliaaGreatDoor.oc
namespace Go.Proofs.YtiahjipoofeliaaGreatDoor.rc
open Go.RowKit
open oc
def insideL (m:MsgS):List UInt8:=low 1 m.kind.toNat++(low 1 m.queue.toNat++(low 1 m.retry.toNat++(low 6 m.born.toNat++(low 6 m.due.toNat++(low 6 m.ref.toNat++(textL m.topic++(textL m.tag++(textL m.body++(low 1 m.keys.length++textsL m.keys)))))))))
def openS (s:ByteArray):MsgS×Rdr :=
 let a1:=(⟨s,0⟩:Rdr).num 1
 let a2:=a1.2.num 1
 let a3:=a2.2.num 1
 let a4:=a3.2.num 6
 let a5:=a4.2.num 6
 let a6:=a5.2.num 6
 let b1:=a6.2.text 16
 let b2:=b1.2.text 16
 let b3:=b2.2.text 200
 let c:=b3.2.list 3 16
 (⟨a1.1,a2.1,a5.1,a3.1,a6.1,a4.1,b1.1,b2.1,b3.1,c.1⟩,c.2)
theorem inside_open {s:ByteArray} (h:(openS s).2.end_=0):s=⟨(insideL (openS s).1).toArray⟩:=by
 unfold openS at h ⊢
 simp only at h ⊢
 unfold Rdr.end_ at h
 generalize ha1:(⟨s,0⟩:Rdr).num 1=a1 at h ⊢
 generalize ha2:a1.2.num 1=a2 at h ⊢
 generalize ha3:a2.2.num 1=a3 at h ⊢
 generalize ha4:a3.2.num 6=a4 at h ⊢
 generalize ha5:a4.2.num 6=a5 at h ⊢
 generalize ha6:a5.2.num 6=a6 at h ⊢
 generalize hb1:a6.2.text 16=b1 at h ⊢
 generalize hb2:b1.2.text 16=b2 at h ⊢
 generalize hb3:b2.2.text 200=b3 at h ⊢
 generalize hc:b3.2.list 3 16=c at h ⊢
 by_cases he:c.2.e≠0
 ·rw[if_pos he]at h;exact absurd h he
 rw[if_neg he]at h
 by_cases hz:c.2.s.size=0
 ·have he0:c.2.e=0:=by simpa using he
  have oc:=(list_over (by rw[hc];exact he0)).1
  have ob3:=(text_over (by rw[hb3];rw[←hc]at he0;exact oc.ok)).1
  have ob2:=(text_over (by rw[hb2];exact ob3.ok)).1
  have ob1:=(text_over (by rw[hb1];exact ob2.ok)).1
  have oa6:=num_over (n:=6) (by decide) (by decide) (by show (Rdr.num _ 6).2.e=0;rw[ha6];exact ob1.ok)
  have oa5:=num_over (n:=6) (by decide) (by decide) (by show (Rdr.num _ 6).2.e=0;rw[ha5];exact oa6.ok)
  have oa4:=num_over (n:=6) (by decide) (by decide) (by show (Rdr.num _ 6).2.e=0;rw[ha4];exact oa5.ok)
  have oa3:=num_over (n:=1) (by decide) (by decide) (by show (Rdr.num _ 1).2.e=0;rw[ha3];exact oa4.ok)
  have oa2:=num_over (n:=1) (by decide) (by decide) (by show (Rdr.num _ 1).2.e=0;rw[ha2];exact oa3.ok)
  have oa1:=num_over (n:=1) (by decide) (by decide) (by show (Rdr.num _ 1).2.e=0;rw[ha1];exact oa2.ok)
  rw[hc]at oc
  rw[hb3]at ob3
  rw[hb2]at ob2
  rw[hb1]at ob1
  rw[show Rdr.num _ ((6:Nat):Int)=a6 from ha6]at oa6
  rw[show Rdr.num _ ((6:Nat):Int)=a5 from ha5]at oa5
  rw[show Rdr.num _ ((6:Nat):Int)=a4 from ha4]at oa4
  rw[show Rdr.num _ ((1:Nat):Int)=a3 from ha3]at oa3
  rw[show Rdr.num _ ((1:Nat):Int)=a2 from ha2]at oa2
  rw[show Rdr.num _ ((1:Nat):Int)=a1 from ha1]at oa1
  have all:=oa1.trans (oa2.trans (oa3.trans (oa4.trans (oa5.trans (oa6.trans (ob1.trans (ob2.trans (ob3.trans oc))))))))
  have hb:=all.bytes
  have hn:c.2.s.data.toList=[]:=List.eq_nil_of_length_eq_zero (by rw[size_toList];exact hz)
  rw[hn,List.append_nil]at hb
  apply ba_ext
  exact hb
 ·rw[if_neg hz]at h;cases h
theorem open_inside (m:MsgS) (h1:0≤m.kind∧m.kind<256) (h2:0≤m.queue∧m.queue<256) (h3:0≤m.retry∧m.retry<256) (h4:0≤m.born∧m.born<281474976710656) (h5:0≤m.due∧m.due<281474976710656) (h6:0≤m.ref∧m.ref<281474976710656)
  (ht:m.topic.size≤16) (hg:m.tag.size≤16) (hb:m.body.size≤200) (hk:m.keys.length≤3) (hks:∀s∈m.keys,s.size≤16):openS ⟨(insideL m).toArray⟩=(m,⟨⟨#[]⟩,0⟩):=by
 obtain⟨kd,q,du,rt,rf,bn,tp,tg,bd,ks⟩:=m
 simp only at *
 have n1:=num_back 1 kd.toNat (by decide) (by decide) (by show _<256;omega)
 have n2:=num_back 1 q.toNat (by decide) (by decide) (by show _<256;omega)
 have n3:=num_back 1 rt.toNat (by decide) (by decide) (by show _<256;omega)
 have n4:=num_back 6 bn.toNat (by decide) (by decide) (by show _<281474976710656;omega)
 have n5:=num_back 6 du.toNat (by decide) (by decide) (by show _<281474976710656;omega)
 have n6:=num_back 6 rf.toNat (by decide) (by decide) (by show _<281474976710656;omega)
 rw[show ((kd.toNat:Nat):Int)=kd by omega]at n1
 rw[show ((q.toNat:Nat):Int)=q by omega]at n2
 rw[show ((rt.toNat:Nat):Int)=rt by omega]at n3
 rw[show ((bn.toNat:Nat):Int)=bn by omega]at n4
 rw[show ((du.toNat:Nat):Int)=du by omega]at n5
 rw[show ((rf.toNat:Nat):Int)=rf by omega]at n6
 have t1:=text_back tp 16 (by omega) (by omega)
 have t2:=text_back tg 16 (by omega) (by omega)
 have t3:=text_back bd 200 (by omega) (by omega)
 have l1:=list_back ks 3 16 (by omega) (by omega) (fun t ht=>by have:=hks t ht;omega) []
 rw[List.append_nil]at l1
 simp only[show ((1:Nat):Int)=1 from rfl,show ((6:Nat):Int)=6 from rfl]at n1 n2 n3 n4 n5 n6
 unfold openS insideL
 simp only[n1,n2,n3,n4,n5,n6,t1,t2,t3,l1]
end Go.Proofs.YtiahjipoofeliaaGreatDoor.rc

namespace Go.Proofs.YtiahjipoofeliaaGreatDoor.cr
open Go.RowKit
def poly:Nat:=3988292384
def step1 (x:Nat):Nat:=x / 2 ^^^ (if x%2=1 then poly else 0)
def steps:Nat→Nat→Nat
 | 0,x=>x
 | n+1,x=>steps n (step1 x)
theorem step1_xor (a b:Nat):step1 (a ^^^ b)=step1 a ^^^ step1 b:=by
 unfold step1
 rw[Nat.xor_div_two]
 have h:=@Nat.xor_mod_two_eq_one a b
 by_cases ha:a%2=1<;>by_cases hb:b%2=1
 ·rw[if_neg (by rw[h];simp [ha,hb]),if_pos ha,if_pos hb,Nat.xor_zero]
  rw[Nat.xor_assoc (a / 2),←Nat.xor_assoc poly,Nat.xor_comm poly (b / 2),Nat.xor_assoc (b / 2),Nat.xor_self,Nat.xor_zero]
 ·rw[if_pos (by rw[h];simp [ha,hb]),if_pos ha,if_neg hb,Nat.xor_zero,Nat.xor_assoc,Nat.xor_comm (b / 2),←Nat.xor_assoc]
 ·rw[if_pos (by rw[h];simp [ha,hb]),if_neg ha,if_pos hb,Nat.xor_zero,Nat.xor_assoc]
 ·rw[if_neg (by rw[h];simp [ha,hb]),if_neg ha,if_neg hb,Nat.xor_zero,Nat.xor_zero,Nat.xor_zero]
theorem steps_xor:∀(n a b:Nat),steps n (a ^^^ b)=steps n a ^^^ steps n b
 | 0,_,_=>rfl
 | n+1,a,b=>by unfold steps;rw[step1_xor,steps_xor n]
theorem steps_add:∀(m n x:Nat),steps (m+n) x=steps n (steps m x)
 | 0,n,x=>by rw[Nat.zero_add];rfl
 | m+1,n,x=>by rw[Nat.succ_add];show steps (m+n) (step1 x)=_;rw[steps_add m n];rfl
theorem step1_lt {x:Nat} (h:x<4294967296):step1 x<4294967296:=by
 unfold step1
 refine Nat.xor_lt_two_pow (n:=32) (by omega) ?_
 split<;>decide
theorem steps_lt:∀(n:Nat) {x:Nat},x<4294967296→steps n x<4294967296
 | 0,_,h=>h
 | n+1,_,h=>steps_lt n (step1_lt h)
theorem step1_even (y:Nat):step1 (2 * y)=y:=by
 unfold step1
 rw[if_neg (by omega),Nat.xor_zero];omega
theorem steps_pow:∀(n y:Nat),steps n (2 ^ n * y)=y
 | 0,y=>by simp [steps]
 | n+1,y=>by
  unfold steps
  rw[show 2 ^ (n+1) * y=2 * (2 ^ n * y) by rw[Nat.pow_succ,Nat.mul_comm (2 ^ n) 2,Nat.mul_assoc],step1_even,steps_pow n]
theorem xor_split (n x:Nat):(x%2 ^ n) ^^^ (2 ^ n * (x / 2 ^ n))=x:=by
 apply Nat.eq_of_testBit_eq
 intro i
 rw[Nat.testBit_xor,Nat.testBit_mod_two_pow,Nat.testBit_two_pow_mul]
 by_cases h:i<n
 ·rw[decide_eq_true h,decide_eq_false (by omega)];simp
 ·rw[decide_eq_false h,decide_eq_true (by omega),Nat.testBit_div_two_pow]
  simp only[Bool.false_and,Bool.true_and,Bool.false_xor]
  rw[show i-n+n=i by omega]
theorem steps8 (x:Nat):steps 8 x=steps 8 (x%256) ^^^ x / 256:=by
 conv=>lhs;rw[←xor_split 8 x]
 rw[steps_xor,steps_pow]
theorem tab_next (k b:Nat):steps (8 * (k+1+1)) b=steps 8 (steps (8 * (k+1)) b%256) ^^^ steps (8 * (k+1)) b / 256:=by
 rw[←steps8,←steps_add];congr 1
def crcB (x:Nat) (b:UInt8):Nat:=steps 8 (x ^^^ b.toNat)
theorem crcB_lt {x:Nat} (h:x<4294967296) (b:UInt8):crcB x b<4294967296:=steps_lt 8 (Nat.xor_lt_two_pow (n:=32) (by omega) (by have:=b.toNat_lt;omega))
theorem xor_mod (x b:Nat) (hb:b<256):(x ^^^ b)%256=(x%256) ^^^ b:=by
 have:=@Nat.xor_mod_two_pow x b 8
 rw[show (2:Nat) ^ 8=256 from rfl,Nat.mod_eq_of_lt hb]at this
 exact this
theorem xor_div (x b:Nat) (hb:b<256):(x ^^^ b) / 256=x / 256:=by
 have:=@Nat.xor_div_two_pow x b 8
 rw[show (2:Nat) ^ 8=256 from rfl,Nat.div_eq_of_lt hb,Nat.xor_zero]at this
 exact this
theorem crcB_tab (x:Nat) (b:UInt8):crcB x b=steps 8 ((x%256) ^^^ b.toNat) ^^^ x / 256:=by
 unfold crcB
 rw[steps8,xor_mod _ _ b.toNat_lt,xor_div _ _ b.toNat_lt]
theorem steps_shift (m n y:Nat):steps (m+n) (2 ^ m * y)=steps n y:=by rw[steps_add,steps_pow]
theorem four_steps (x a b c d:Nat):steps 8 (steps 8 (steps 8 (steps 8 (x ^^^ a) ^^^ b) ^^^ c) ^^^ d)=steps 32 (x ^^^ (a ^^^ (256 * b) ^^^ (65536 * c) ^^^ (16777216 * d))):=by
 have hb:=steps_shift 8 24 b
 have hc:=steps_shift 16 16 c
 have hd:=steps_shift 24 8 d
 simp only[show (8:Nat)+24=32 from rfl,show (16:Nat)+16=32 from rfl,show (24:Nat)+8=32 from rfl,show (2:Nat) ^ 8=256 from rfl,show (2:Nat) ^ 16=65536 from rfl,show (2:Nat) ^ 24=16777216 from rfl]at hb hc hd
 simp only[steps_xor,hb,hc,hd,←steps_add]
 simp only[show (8:Nat)+(8+(8+8))=32 from rfl,show (8:Nat)+(8+8)=24 from rfl,show (8:Nat)+8=16 from rfl,Nat.xor_assoc]
theorem mul_xor (n a b:Nat):(a ^^^ b) * 2 ^ n=(a * 2 ^ n) ^^^ (b * 2 ^ n):=by
 have:=@Nat.shiftLeft_xor_distrib n a b
 rwa[Nat.shiftLeft_eq,Nat.shiftLeft_eq,Nat.shiftLeft_eq]at this
theorem mul_a (z:Nat):256 * z * 256=65536 * z:=by omega
theorem mul_b (z:Nat):256 * z * 65536=16777216 * z:=by omega
theorem steps32 (y:Nat) (h:y<4294967296):steps 32 y=steps 32 (y%256) ^^^ steps 24 (y / 256%256) ^^^ steps 16 (y / 65536%256) ^^^ steps 8 (y / 16777216):=by
 have e:y=(y%256) ^^^ ((256 * (y / 256%256)) ^^^ ((65536 * (y / 65536%256)) ^^^ (16777216 * (y / 16777216)))):=by
  have h1:=xor_split 8 y
  have h2:=xor_split 8 (y / 256)
  have h3:=xor_split 8 (y / 65536)
  simp only[show (2:Nat) ^ 8=256 from rfl]at h1 h2 h3
  have d2:y / 256 / 256=y / 65536:=by rw[Nat.div_div_eq_div_mul]
  have d3:y / 65536 / 256=y / 16777216:=by rw[Nat.div_div_eq_div_mul]
  rw[d2]at h2
  rw[d3]at h3
  have m1:256 * (y / 256)=(256 * (y / 256%256)) ^^^ (65536 * (y / 65536)):=by
   conv=>lhs;rw[←h2]
   have e:=mul_xor 8 (y / 256%256) (256 * (y / 65536))
   rw[show (2:Nat) ^ 8=256 from rfl]at e
   rw[Nat.mul_comm 256 (y / 256%256 ^^^ _),e,Nat.mul_comm (y / 256%256) 256,mul_a]
  have m2:65536 * (y / 65536)=(65536 * (y / 65536%256)) ^^^ (16777216 * (y / 16777216)):=by
   conv=>lhs;rw[←h3]
   have e:=mul_xor 16 (y / 65536%256) (256 * (y / 16777216))
   rw[show (2:Nat) ^ 16=65536 from rfl]at e
   rw[Nat.mul_comm 65536 (y / 65536%256 ^^^ _),e,Nat.mul_comm (y / 65536%256) 65536,mul_b]
  rw[←m2,←m1,h1]
 have hb:=steps_shift 8 24 (y / 256%256)
 have hc:=steps_shift 16 16 (y / 65536%256)
 have hd:=steps_shift 24 8 (y / 16777216)
 simp only[show (8:Nat)+24=32 from rfl,show (16:Nat)+16=32 from rfl,show (24:Nat)+8=32 from rfl,show (2:Nat) ^ 8=256 from rfl,show (2:Nat) ^ 16=65536 from rfl,show (2:Nat) ^ 24=16777216 from rfl]at hb hc hd
 conv=>lhs;rw[e]
 simp only[steps_xor,hb,hc,hd,Nat.xor_assoc]
def crcN (l:List UInt8):Nat:=4294967295 ^^^ l.foldl crcB 4294967295
theorem fold_lt:∀(l:List UInt8) {x:Nat},x<4294967296→l.foldl crcB x<4294967296
 | [],_,h=>h
 | b :: l,_,h=>fold_lt l (crcB_lt h b)
theorem crcN_lt (l:List UInt8):crcN l<4294967296:=Nat.xor_lt_two_pow (n:=32) (by decide) (fold_lt l (by decide))
end Go.Proofs.YtiahjipoofeliaaGreatDoor.cr

namespace Go.Proofs.YtiahjipoofeliaaGreatDoor.rc
open Go.RowKit
open oc cr
abbrev markC:ByteArray:=⟨#[165]⟩
abbrev blankC:ByteArray:=⟨#[90]⟩
abbrev zeroM:MsgS:=⟨0,0,0,0,0,0,⟨#[]⟩,⟨#[]⟩,⟨#[]⟩,[]⟩
abbrev fillM (n:Nat):MsgS:=⟨0,0,0,0,0,0,⟨#[]⟩,⟨#[]⟩,zerosB n,[]⟩
def sealL (l:List UInt8):List UInt8:=low 4 (crcN l)++l
def fillB (n:Nat):ByteArray:=⟨((90:UInt8) :: (low 2 n++List.replicate (n-3) 0)).toArray⟩
def recB (m:MsgS):ByteArray:=⟨((165:UInt8) :: (low 2 (3+(sealL (insideL m)).length)++sealL (insideL m))).toArray⟩
def openSeal (t:ByteArray):Option ByteArray:=if t.size<4∨t.data.toList.take 4≠low 4 (crcN (t.data.toList.drop 4)) then none else some (t.extract 4 t.size)
section
variable (P:MsgS→Prop) [DecidablePred P]
def putS (m:MsgS):ByteArray×Int :=
 if ¬P m then (⟨#[]⟩,1) else if m.kind=0 then (if 3≤m.body.size∧m.body.size≤1024 then (fillB m.body.size,0) else (⟨#[]⟩,1)) else (recB m,0)
def getS (s:ByteArray):MsgS×Int×Int :=
 let a:=(⟨s,0⟩:Rdr).take 1
 let b:=a.2.num 2
 let c:=b.2.take (max (b.1-3) 0)
 if a.1≠⟨#[]⟩∧a.1≠markC∧a.1≠blankC then (zeroM,0,4)
 else if s.size<3 then (zeroM,0,3)
 else if b.1<3∨(a.1=blankC∧1024<b.1) then (zeroM,0,4)
 else if c.2.e≠0 then (zeroM,0,3)
 else if a.1=blankC∧c.1≠zerosB c.1.size then (zeroM,0,4)
 else if a.1=blankC then (fillM b.1.toNat,b.1,0)
 else match openSeal c.1 with
  | none=>(zeroM,0,5)
  | some t=>if (openS t).2.end_=0∧(openS t).1.kind≠0∧P (openS t).1 then ((openS t).1,b.1,0) else (zeroM,0,4)
variable {P}
theorem seal_back {t:ByteArray} {u:ByteArray} (h:openSeal t=some u):t.data.toList=sealL u.data.toList:=by
 unfold openSeal at h
 split at h
 ·cases h
 ·rename_i hc
  have h1:¬t.size<4:=fun h=>hc (.inl h)
  have h2:t.data.toList.take 4=low 4 (crcN (t.data.toList.drop 4)):=Classical.byContradiction fun h=>hc (.inr h)
  cases h
  have e:(t.extract 4 t.size).data.toList=t.data.toList.drop 4:=by
   simp only[ByteArray.data_extract,Array.toList_extract,List.extract_eq_take_drop]
   exact List.take_of_length_le (by rw[List.length_drop,size_toList];exact Nat.le_refl _)
  rw[e]
  unfold sealL
  rw[←h2,List.take_append_drop]
theorem seal_open (l:List UInt8):openSeal ⟨(sealL l).toArray⟩=some ⟨l.toArray⟩:=by
 have hsz:(⟨(sealL l).toArray⟩:ByteArray).size=4+l.length:=by show (sealL l).toArray.size=_;unfold sealL;simp [low_length]
 unfold openSeal
 have ht:(sealL l).take 4=low 4 (crcN l):=by unfold sealL;rw[List.take_append_of_le_length (by rw[low_length];exact Nat.le_refl _),List.take_of_length_le (by rw[low_length];exact Nat.le_refl _)]
 have hd:(sealL l).drop 4=l:=by unfold sealL;rw[List.drop_append_of_le_length (by rw[low_length];exact Nat.le_refl _),List.drop_of_length_le (by rw[low_length];exact Nat.le_refl _),List.nil_append]
 rw[if_neg (by
  rintro(h|h)
  ·rw[hsz]at h;omega
  ·simp only at h;rw[ht,hd]at h;exact h rfl)]
 congr 1
 apply ba_ext
 rw[hsz]
 simp only[ByteArray.data_extract,Array.toList_extract,List.extract_eq_take_drop]
 rw[hd]
 exact List.take_of_length_le (by omega)
theorem get_put (h0:∀n,n≤1024→P (fillM n)) {s:ByteArray} {x:MsgS} {n:Int} (h:getS P s=(x,n,0)):∃r,(putS P x).2=0∧s.data.toList=(putS P x).1.data.toList++r∧n=(putS P x).1.size:=by
 unfold getS at h
 simp only at h
 generalize ha:(⟨s,0⟩:Rdr).take 1=a at h
 generalize hb:a.2.num 2=b at h
 generalize hc:b.2.take (max (b.1-3) 0)=c at h
 by_cases c1:a.1≠⟨#[]⟩∧a.1≠markC∧a.1≠blankC
 ·rw[if_pos c1]at h;simp at h
 rw[if_neg c1]at h
 by_cases c2:s.size<3
 ·rw[if_pos c2]at h;simp at h
 rw[if_neg c2]at h
 by_cases c3:b.1<3∨(a.1=blankC∧1024<b.1)
 ·rw[if_pos c3]at h;simp at h
 rw[if_neg c3]at h
 by_cases c4:c.2.e≠0
 ·rw[if_pos c4]at h;simp at h
 rw[if_neg c4]at h
 have c4':c.2.e=0:=by simpa using c4
 obtain⟨oc,nc⟩:=take_over (by rw[hc];exact c4')
 have ob:=num_over (n:=2) (by decide) (by decide) (by show (Rdr.num _ 2).2.e=0;rw[hb];exact oc.ok)
 obtain⟨oa,na⟩:=take_over (by rw[ha];exact ob.ok)
 rw[hc]at oc nc
 rw[show Rdr.num _ ((2:Nat):Int)=b from hb]at ob
 rw[ha]at oa na
 have all:=(oa.trans (ob.trans oc)).bytes
 simp only at all
 have hb3:3≤b.1:=by omega
 by_cases c5:a.1=blankC∧c.1≠zerosB c.1.size
 ·rw[if_pos c5]at h;simp at h
 rw[if_neg c5]at h
 by_cases c6:a.1=blankC
 ·rw[if_pos c6]at h
  simp only[Prod.mk.injEq,and_true]at h
  obtain⟨rfl,rfl⟩:=h
  have hz:c.1=zerosB c.1.size:=Classical.byContradiction fun hh=>c5 ⟨c6,hh⟩
  have hle:b.1.toNat≤1024:=by
   have:¬1024<b.1:=fun hh=>c3 (.inr ⟨c6,hh⟩)
   omega
  have hput:putS P (fillM b.1.toNat)=(fillB b.1.toNat,0):=by
   unfold putS
   rw[if_neg (fun hh=>hh (h0 _ hle)),if_pos rfl]
   simp only[zerosB_size]
   rw[if_pos ⟨by omega,hle⟩]
  rw[hput]
  refine⟨c.2.s.data.toList,rfl,?_,?_⟩
  ·rw[all,c6,hz]
   have hcs:c.1.size=b.1.toNat-3:=by omega
   rw[hcs]
   unfold fillB zerosB
   simp
  ·show b.1=((fillB b.1.toNat).size:Int)
   have:(fillB b.1.toNat).size=1+(2+(b.1.toNat-3)):=by show (_:List UInt8).toArray.size=_;simp [low_length];omega
   rw[this];omega
 ·rw[if_neg c6]at h
  have hmark:a.1=markC:=by
   have h1:a.1≠⟨#[]⟩:=fun e=>by rw[e]at na;cases na
   exact Classical.byContradiction fun hh=>c1 ⟨h1,hh,c6⟩
  cases ho:openSeal c.1 with
  | none=>rw[ho]at h;simp at h
  | some t =>
   rw[ho]at h
   simp only at h
   by_cases c7:(openS t).2.end_=0∧(openS t).1.kind≠0∧P (openS t).1
   ·rw[if_pos c7]at h
    obtain⟨e1,e2,e3⟩:=c7
    simp only[Prod.mk.injEq,and_true]at h
    obtain⟨rfl,rfl⟩:=h
    have hput:putS P (openS t).1=(recB (openS t).1,0):=by
     unfold putS
     rw[if_neg (fun hh=>hh e3),if_neg e2]
    have hin:=inside_open e1
    have hs:=seal_back ho
    have hs2:c.1.data.toList=sealL (insideL (openS t).1):=by rw[hs];conv=>lhs;rw[hin]
    have hlen:(sealL (insideL (openS t).1)).length=c.1.size:=by rw[←hs2,size_toList]
    rw[hput]
    refine⟨c.2.s.data.toList,rfl,?_,?_⟩
    ·rw[all,hmark,hs2]
     unfold recB
     rw[hlen,show 3+c.1.size=b.1.toNat by omega]
     simp
    ·show b.1=((recB (openS t).1).size:Int)
     have:(recB (openS t).1).size=1+(2+(sealL (insideL (openS t).1)).length):=by show (_:List UInt8).toArray.size=_;simp [low_length];omega
     rw[this,hlen];omega
   ·rw[if_neg c7]at h;simp at h
structure Fits (m:MsgS):Prop where
 kind:0≤m.kind∧m.kind<256
 queue:0≤m.queue∧m.queue<256
 retry:0≤m.retry∧m.retry<256
 born:0≤m.born∧m.born<281474976710656
 due:0≤m.due∧m.due<281474976710656
 ref:0≤m.ref∧m.ref<281474976710656
 topic:m.topic.size≤16
 tag:m.tag.size≤16
 body:m.body.size≤200
 keys:m.keys.length≤3
 key:∀s∈m.keys,s.size≤16
theorem textsL_le:∀(l:List ByteArray),(∀s∈l,s.size≤16)→(textsL l).length≤18 * l.length
 | [],_=>by simp [textsL]
 | s :: l,h=>by
  have h1:=h s (List.mem_cons_self ..)
  have h2:=textsL_le l (fun t ht=>h t (List.mem_cons_of_mem _ ht))
  have h3:textsL (s :: l)=textL s++textsL l:=by unfold textsL;rw[List.flatMap_cons]
  rw[h3,List.length_append,textL_length,List.length_cons]
  omega
theorem inside_length {m:MsgS} (h:Fits m):(insideL m).length≤314:=by
 have h1:=textsL_le m.keys h.key
 have:=h.topic
 have:=h.tag
 have:=h.body
 have:=h.keys
 unfold insideL
 simp only[List.length_append,low_length,textL_length]
 omega
theorem seal_length (l:List UInt8):(sealL l).length=4+l.length:=by unfold sealL;rw[List.length_append,low_length]
theorem read_head (x:UInt8) (n:Nat) (hn:n<65536) (a r:List UInt8) (ha:a.length=n-3) (h3:3≤n) :
  (⟨⟨(x :: (low 2 n++(a++r))).toArray⟩,0⟩:Rdr).take 1=(⟨#[x]⟩,⟨⟨(low 2 n++(a++r)).toArray⟩,0⟩) ∧
  (⟨⟨(low 2 n++(a++r)).toArray⟩,0⟩:Rdr).num 2=((n:Int),⟨⟨(a++r).toArray⟩,0⟩) ∧
  (⟨⟨(a++r).toArray⟩,0⟩:Rdr).take (max ((n:Int)-3) 0)=(⟨a.toArray⟩,⟨⟨r.toArray⟩,0⟩):=by
 refine⟨?_,?_,?_⟩
 ·exact take_back [x] (low 2 n++(a++r))
 ·exact num_back 2 n (by decide) (by decide) hn (a++r)
 ·have:=take_back a r
  rwa[ha,show (((n-3:Nat):Int))=max ((n:Int)-3) 0 by omega]at this
theorem get_rec (hfit:∀m,P m→m.kind≠0→Fits m) {m:MsgS} (hp:P m) (hk:m.kind≠0) (r:List UInt8):getS P ⟨((recB m).data.toList++r).toArray⟩=(m,((recB m).size:Int),0):=by
 have F:=hfit m hp hk
 have hl:=inside_length F
 have hsl:=seal_length (insideL m)
 have hsz:(recB m).size=3+(sealL (insideL m)).length:=by show (_:List UInt8).toArray.size=_;simp [low_length];omega
 have hopen:=open_inside m F.kind F.queue F.retry F.born F.due F.ref F.topic F.tag F.body F.keys F.key
 have he:(recB m).data.toList++r=(165:UInt8) :: (low 2 (3+(sealL (insideL m)).length)++(sealL (insideL m)++r)):=by unfold recB;simp
 obtain⟨t1,t2,t3⟩:=read_head 165 (3+(sealL (insideL m)).length) (by omega) (sealL (insideL m)) r (by omega) (by omega)
 have hs3:¬(⟨((165:UInt8) :: (low 2 (3+(sealL (insideL m)).length)++(sealL (insideL m)++r))).toArray⟩:ByteArray).size<3:=by
  show ¬(_:List UInt8).toArray.size<3
  simp [low_length]<;>omega
 rw[he]
 unfold getS
 simp only[t1,t2,t3]
 rw[if_neg (by simp),if_neg hs3,if_neg (by rintro(h|⟨h,_⟩);omega;cases h),if_neg (fun h=>h rfl),if_neg (by rintro⟨h,_⟩;cases h),if_neg (fun h=>by cases h),seal_open]
 simp only[hopen]
 rw[if_pos ⟨by rfl,hk,hp⟩,hsz]
theorem get_fill (n:Nat) (h3:3≤n) (h:n≤1024) (r:List UInt8):getS P ⟨((fillB n).data.toList++r).toArray⟩=(fillM n,(n:Int),0):=by
 have he:(fillB n).data.toList++r=(90:UInt8) :: (low 2 n++(List.replicate (n-3) 0++r)):=by unfold fillB;simp
 obtain⟨t1,t2,t3⟩:=read_head 90 n (by omega) (List.replicate (n-3) 0) r (by simp) h3
 have hs3:¬(⟨((90:UInt8) :: (low 2 n++(List.replicate (n-3) 0++r))).toArray⟩:ByteArray).size<3:=by
  show ¬(_:List UInt8).toArray.size<3
  simp [low_length]<;>omega
 have hz:(⟨(List.replicate (n-3) (0:UInt8)).toArray⟩:ByteArray)=zerosB (n-3):=rfl
 rw[he]
 unfold getS
 simp only[t1,t2,t3]
 rw[if_neg (by simp),if_neg hs3,if_neg (by rintro(h|⟨_,h⟩)<;>omega),if_neg (fun h=>h rfl),hz,zerosB_size,if_neg (by rintro⟨_,h⟩;exact h rfl),if_pos (by first|rfl|trivial)]
 simp
end
end Go.Proofs.YtiahjipoofeliaaGreatDoor.rc

namespace Go.Proofs.YtiahjipoofeliaaGreatDoor
open Go.ChangeShapes Go.WideShapes Go.ChangeAt Go.RowKit
theorem Calm.drewN {a w:World} (h:Calm a w) (n:Nat):Calm a (w.drewN n):=⟨h.os,h.tape,h.output,h.size,h.block⟩
theorem Texts_any (v u:Value) (l m:List ByteArray) (w:World) (h:StrsAt w v l) (g:StrsAt w u m) (hal:l.length≤4294967296) (hbl:m.length≤4294967296):Calls Tryz.prog 73 #[v,u] w fun e w'=>e=.returned (.bool (decide (l=m)))∧Calm w w':=by
 obtain⟨a,acap,rfl,ha⟩:=h.uni
 obtain⟨b,bcap,rfl,hb⟩:=g.uni
 by_cases hlen:l.length=m.length
 ·have ha':=box ha
  have hb':=box hb
  have Hl:=box hal
  clear ha hb hbl
  rw[←hlen]
  obtain⟨rr,hrr⟩:∃rr,decide (l=m)=rr:=⟨_,rfl⟩
  rw[hrr]
  have Hrr:=box hrr.symm
  clear hrr
  go_enter Tryz.func73,Tryz.ntmps73
  go_wp2_with fail
  go_loopw [5] (fun i wr=>∃k:Nat,k≤l.length∧i=.int .i64 k∧l.take k=m.take k∧Calm w wr) (fun i _=>l.length-(intOf i).toNat)
  case atStart=>exact⟨0,Nat.zero_le _,rfl,rfl,.refl _⟩
  case round =>
   obtain⟨k,hk,rfl,hpre,hC⟩:=hrel
   have Hpre:=box hpre
   have HC:=box hC
   clear hpre hC
   by_cases hlt:k<l.length
   ·obtain⟨ab,aoff,rfl,hal2,hac⟩:=ha'.out k hlt
    obtain⟨bb,boff,rfl,hbl2,hbc⟩:=hb'.out k (by omega)
    have hs1:=box (show l.take (k+1)=l.take k++[l[k]] from List.take_succ_eq_append_getElem hlt)
    have hs2:=box (show m.take (k+1)=m.take k++[m[k]'(by omega)] from List.take_succ_eq_append_getElem (by omega))
    have hne:=box (fun (h:l[k]≠m[k]'(by omega))=>(decide_eq_false (fun e=>h (by subst e;rfl)):decide (l=m)=false))
    have hga:l.getD k ByteArray.empty=l[k]:=by rw[List.getD_eq_getElem?_getD,List.getElem?_eq_getElem hlt];rfl
    have hgb:m.getD k ByteArray.empty=m[k]'(by omega):=by rw[List.getD_eq_getElem?_getD,List.getElem?_eq_getElem (by omega)];rfl
    rw[hga]at hac
    rw[hgb]at hbc
    clear hga hgb
    obtain⟨x,hx⟩:∃x,l[k]=x:=⟨_,rfl⟩
    obtain⟨y,hy⟩:∃y,m[k]'(by omega)=y:=⟨_,rfl⟩
    rw[hx]at hac hs1 hne
    rw[hy]at hbc hs2 hne
    clear hx hy
    have hac':=(HC.out.cell (p:=⟨ab,aoff+k,none⟩) hal2).trans hac
    have hbc':=(HC.out.cell (p:=⟨bb,boff+k,none⟩) hbl2).trans hbc
    have hal3:=Nat.lt_of_lt_of_le hal2 HC.out.size
    have hbl3:=Nat.lt_of_lt_of_le hbl2 HC.out.size
    have hki:(k:Int)<(l.length:Int):=by omega
    have hk0:(0:Int)≤(k:Int):=by omega
    clear hac hbc
    by_cases heq:x=y
    ·subst heq
     go_wp2_with (first|go_quiet (fail)|fail)
     go_wp2_with fail
     go_roundw
     case rel=>exact⟨k+1,by omega,by go_num,by rw[hs1.out,hs2.out,Hpre.out],HC.out.drewN _⟩
     case measure=>simp [intOf];omega
    ·have hb1:(x.toList==y.toList)=false:=beq_eq_false_iff_ne.2 (fun e=>heq (ba_ext (by rw[←Lib.toList_data,←Lib.toList_data];exact e)))
     have hne:=box (hne.out heq)
     clear heq
     go_wp2_with (first|go_quiet (fail)|fail)
     go_wp2_with fail
     go_ret
     exact⟨ret_bool (by rw[Hrr.out,hne.out]),HC.out.drewN _⟩
   ·obtain rfl:k=l.length:=by omega
    have hd:decide (l=m)=true:=decide_eq_true (by
     have:=Hpre.out
     rw[List.take_length,hlen,List.take_length]at this
     exact this)
    have hd:=box hd
    go_wp2_with fail
    go_ret
    exact⟨ret_bool (by rw[Hrr.out,hd.out]),HC.out⟩
 ·have hd:decide (l=m)=false:=decide_eq_false (fun e=>hlen (by rw[e]))
  have hne:(l.length==m.length)=false:=by rw[beq_eq_false_iff_ne];exact hlen
  rw[hd]
  clear hd ha hb
  go_enter Tryz.func73,Tryz.ntmps73
  go_wp2_with fail
  all_goals first|(go_ret;exact⟨rfl,.refl _⟩)|(exfalso;omega)
end Go.Proofs.YtiahjipoofeliaaGreatDoor
