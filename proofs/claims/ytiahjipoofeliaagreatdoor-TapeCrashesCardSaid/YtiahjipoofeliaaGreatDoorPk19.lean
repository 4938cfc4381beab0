/- Lemmas for this claim. -/
import Derived.Lib.DecodeN
import Derived.Test.YtiahjipoofeliaaGreatDoorPk18
set_option maxRecDepth 100000
namespace Go.Proofs.YtiahjipoofeliaaGreatDoor.nm
open Go.ChangeShapes Go.WideShapes Go.ChangeAt Go.RowKit
def signN (c:Nat):Bool:=(decide (97≤c) && decide (c≤122)) || (decide (48≤c) && decide (c≤57)) || decide (c=45)
def signB (c:UInt8):Bool:=signN c.toNat
def plainL (l:List UInt8):Bool:=decide (1≤l.length) && decide (l.length≤16) && l.all signB
def plainB (s:ByteArray):Bool:=plainL s.data.toList
def groupL (l:List UInt8):Bool:=plainL l && decide (l.length≤8)
def groupB (s:ByteArray):Bool:=groupL s.data.toList
theorem sign_true {c:Nat} (h:(97≤c∧c≤122)∨(48≤c∧c≤57)∨c=45):signN c=true:=by
 simp [signN];omega
theorem sign_false {c:Nat} (h:¬((97≤c∧c≤122)∨(48≤c∧c≤57)∨c=45)):signN c=false:=by
 simp [signN];omega
set_option maxHeartbeats 1000000 in
theorem sign_any (r:Nat) (w:World) :
  Calls Tryz.prog 176 #[.int .i32 (r:Int)] w fun e w'=>e=.returned (.bool (signN r))∧w=w':=by
 go_enter Tryz.func176,Tryz.ntmps176
 go_wp2
 all_goals
  go_ret
  refine⟨ret_bool ?_,rfl⟩
  by_cases hz:(r:Int)=45<;>first
   | (rw[sign_true (by omega)];done)
   | (rw[sign_false (by omega)];done)
   | (rw[sign_true (by omega)];simp [hz];done)
   | (rw[sign_false (by omega)];simp [hz];done)
   | (rw[sign_true (by omega)];simp [hz];omega)
   | (rw[sign_false (by omega)];simp [hz];omega)
theorem notsign_any (r:Nat) (w:World) :
  Calls Tryz.prog 175 #[.int .i32 (r:Int)] w fun e w'=>e=.returned (.bool (!signN r))∧w=w':=by
 go_enter Tryz.func175,Tryz.ntmps175
 go_wp2_with (go_at_call 176;refine(sign_any _ _).mono ?_;rintro e w' ⟨rfl,rfl⟩)
 go_ret
 exact⟨rfl,rfl⟩
theorem notsign_at (w:World):PredAt Tryz.prog 175 #[] encR (fun r=>!signN r) w:=by
 intro W r _
 exact(notsign_any r W).mono fun e w' ⟨he,hw⟩=>⟨he,0,hw ▸ rfl⟩
theorem decode_high (s:ByteArray) (i:Nat) (h:128≤(s.get! i).toNat):128≤(Utf8.decode s i).1:=by
 rw[Lib.decode_at]
 unfold Lib.decodeN
 repeat' split
 all_goals first|omega|(simp only[];omega)
theorem get!_eq (s:ByteArray) (i:Nat) (h:i<s.size):s.get! i=s[i]:=by
 show s.data[i]! = _
 rw[getElem!_pos s.data i h];rfl
theorem idx_sign (s:ByteArray):∀(f pos:Nat),s.size≤pos+f→decide (Lib.idxFuncFrom (fun r=>!signN r) true s f pos<0)=(s.data.toList.drop pos).all signB
 | 0,pos,h=>by
  have e:s.data.toList.drop pos=[]:=List.drop_eq_nil_of_le (by simpa using h)
  simp [Lib.idxFuncFrom,e]
 | f+1,pos,h=>by
  unfold Lib.idxFuncFrom
  by_cases hp:pos<s.size
  ·rw[if_pos hp]
   have hd:s.data.toList.drop pos=s[pos] :: s.data.toList.drop (pos+1):=by
    rw[List.drop_eq_getElem_cons (by simpa using hp)];rfl
   rw[hd,List.all_cons]
   by_cases hb:(s[pos]).toNat<128
   ·rw[decode_ascii s pos hp hb]
    by_cases hs:signB s[pos]=true
    ·have hs':signN s[pos].toNat=true:=hs
     simp only[hs',hs,Bool.true_and]
     simpa using idx_sign s f (pos+1) (by omega)
    ·have hs1:signB s[pos]=false:=by simpa using hs
     have hs':signN s[pos].toNat=false:=hs1
     simp only[hs',hs1]
     simp
   ·have h1:=decode_high s pos (by rw[get!_eq s pos hp];omega)
    have h2:signN (Utf8.decode s pos).1=false:=sign_false (by omega)
    have h3:signB s[pos]=false:=sign_false (by omega)
    simp only[h2,h3]
    simp
  ·rw[if_neg hp]
   have e:s.data.toList.drop pos=[]:=List.drop_eq_nil_of_le (by simp;omega)
   simp [e]
theorem idx_all (s:ByteArray):decide (Lib.idxFunc (fun r=>!signN r) true s<0)=s.data.toList.all signB:=by
 have:=idx_sign s s.size 0 (by omega)
 rw[List.drop_zero]at this
 exact this
theorem plain_empty (s:ByteArray) (h:s.size=0):plainB s=false:=by simp [plainB,plainL,h]
theorem plain_long (s:ByteArray) (h:16<s.size):plainB s=false:=by simp [plainB,plainL];omega
theorem plain_mid (s:ByteArray) (h:1≤s.size) (h2:s.size≤16):plainB s=s.data.toList.all signB:=by
 simp [plainB,plainL,h2];omega
theorem Plain_any (s:ByteArray) (w:World) :
  Calls Tryz.prog 134 #[.string s] w fun e w'=>e=.returned (.bool (plainB s))∧Calm w w':=by
 have hc:∀W,Calls Tryz.prog 174 #[.string s,.func (.func 175) #[] #[]] W fun e w'=>e=.returned (.int .i64 (Lib.idxFunc (fun r=>!signN r) true s))∧Below W.heap.size W w' :=
  fun W=>Tryz.strings_IndexFunc 175 #[] (enters_of Tryz.func175 (by kernel_rfl) rfl) _ s W (notsign_at W)
 have hi:=idx_all s
 obtain⟨I,hI⟩:∃I,Lib.idxFunc (fun r=>!signN r) true s=I:=⟨_,rfl⟩
 rw[hI]at hi
 simp only[hI]at hc
 have Hc:=box hc
 clear hc
 by_cases h0:s.size=0
 ·have:s.toList=[]:=by rw[Lib.toList_data];exact List.eq_nil_of_length_eq_zero (by simpa using h0)
  rw[plain_empty s h0]
  go_enter Tryz.func134,Tryz.ntmps134
  go_wp2
  go_ret
  exact⟨ret_bool (by simp),Calm.refl _⟩
 ·have h1:(s.toList).isEmpty=false:=by
   rw[Lib.toList_data,List.isEmpty_eq_false_iff];intro h;apply h0;simpa using congrArg List.length h
  by_cases h2:s.size≤16
  ·rw[plain_mid s (by omega) h2,←hi]
   clear hI hi
   go_enter Tryz.func134,Tryz.ntmps134
   go_wp2_with (go_at_call 174;refine(Hc.out _).mono ?_;rintro e w' ⟨rfl,hb⟩)
   go_ret
   exact⟨ret_bool (by simp),by assumption⟩
  ·rw[plain_long s (by omega)]
   clear hI hi
   go_enter Tryz.func134,Tryz.ntmps134
   go_wp2_with (go_at_call 174;refine(Hc.out _).mono ?_;rintro e w' ⟨rfl,hb⟩)
   go_ret
   exact⟨ret_bool (by simp),Calm.refl _⟩
theorem Group_any (s:ByteArray) (w:World) :
  Calls Tryz.prog 173 #[.string s] w fun e w'=>e=.returned (.bool (groupB s))∧Calm w w':=by
 cases hp:plainB s
 ·have hg:groupB s=false:=by unfold groupB groupL;rw[show plainL s.data.toList=false from hp];rfl
  rw[hg]
  clear hg
  go_enter Tryz.func173,Tryz.ntmps173
  go_wp2_with (go_at_call 134;refine(Plain_any _ _).mono ?_;rintro e w' ⟨rfl,hb⟩)
  go_ret
  exact⟨rfl,by assumption⟩
 ·have hg:groupB s=decide ((s.size:Int)≤8):=by
   unfold groupB groupL;rw[show plainL s.data.toList=true from hp];simp;omega
  rw[hg]
  clear hg
  go_enter Tryz.func173,Tryz.ntmps173
  go_wp2_with (go_at_call 134;refine(Plain_any _ _).mono ?_;rintro e w' ⟨rfl,hb⟩)
  go_ret
  exact⟨rfl,by assumption⟩
abbrev retryC:ByteArray:=⟨#[37,114,101,116,114,121,37]⟩
abbrev deadC:ByteArray:=⟨#[37,100,101,97,100,37]⟩
def hasS (s h:ByteArray):Bool:=Lib.hasPrefix s.data.toList h.data.toList
def cutS (s h:ByteArray):ByteArray:=⟨(Lib.trimPrefix s.data.toList h.data.toList).toArray⟩
def hitS (s h:ByteArray):Bool:=hasS s h && groupB (cutS s h)
def ofG (s:ByteArray):ByteArray:=if hitS s retryC then cutS s retryC else if hitS s deadC then cutS s deadC else ⟨#[]⟩
def ofOk (s:ByteArray):Bool:=hitS s retryC || hitS s deadC
theorem three (s h:ByteArray):(hitS s h=false∧hasS s h=false)∨(hitS s h=false∧hasS s h=true∧groupB (cutS s h)=false)∨(hitS s h=true∧hasS s h=true∧groupB (cutS s h)=true):=by
 unfold hitS
 cases hasS s h<;>cases groupB (cutS s h)<;>simp
theorem Cut_any (s h:ByteArray) (w:World) :
  Calls Tryz.prog 172 #[.string s,.string h] w fun e w'=>e=.returned (.tuple #[.string (cutS s h),.bool (hasS s h)])∧w=w' :=
 (Tryz.strings_CutPrefix s h w).mono fun e w' ⟨he,hw⟩=>⟨he,hw.symm⟩
set_option maxHeartbeats 1000000 in
theorem Of_any (s:ByteArray) (w:World) :
  Calls Tryz.prog 133 #[.string s] w fun e w'=>e=.returned (.tuple #[.string (ofG s),.bool (ofOk s)])∧Calm w w':=by
 rcases three s retryC with ⟨h0,h1⟩|⟨h0,h1,h2⟩|⟨h0,h1,h2⟩
 ·rcases three s deadC with ⟨g0,g1⟩|⟨g0,g1,g2⟩|⟨g0,g1,g2⟩
  all_goals
   have e1:ofG s=if hitS s deadC then cutS s deadC else ⟨#[]⟩:=by unfold ofG;rw[h0];rfl
   have e2:ofOk s=hitS s deadC:=by unfold ofOk;rw[h0];rfl
   rw[e1,e2,g0]
   clear e1 e2 h0 g0
   go_enter Tryz.func133,Tryz.ntmps133
   go_wp2
   refine wp_loop_rounds 3 ?_
   rw[rounds_succ]
   go_wp2_with (first|(go_at_call 172;refine(Cut_any _ retryC _).mono ?_;rintro e w' ⟨rfl,rfl⟩))
   rw[rounds_succ]
   go_wp2_with (first|(go_at_call 172;refine(Cut_any _ deadC _).mono ?_;rintro e w' ⟨rfl,rfl⟩)|(go_at_call 173;refine(Group_any _ _).mono ?_;rintro e w' ⟨rfl,hb⟩))
   try (rw[rounds_succ];go_wp2)
   go_ret2
   refine⟨rfl,?_⟩
   exact cm
 ·rcases three s deadC with ⟨g0,g1⟩|⟨g0,g1,g2⟩|⟨g0,g1,g2⟩
  all_goals
   have e1:ofG s=if hitS s deadC then cutS s deadC else ⟨#[]⟩:=by unfold ofG;rw[h0];rfl
   have e2:ofOk s=hitS s deadC:=by unfold ofOk;rw[h0];rfl
   rw[e1,e2,g0]
   clear e1 e2 h0 g0
   go_enter Tryz.func133,Tryz.ntmps133
   go_wp2
   refine wp_loop_rounds 3 ?_
   rw[rounds_succ]
   go_wp2_with (first|(go_at_call 172;refine(Cut_any _ retryC _).mono ?_;rintro e w' ⟨rfl,rfl⟩)|(go_at_call 173;refine(Group_any _ _).mono ?_;rintro e w' ⟨rfl,hb⟩;obtain⟨hbc,hbf⟩:=bcell hb))
   rw[rounds_succ]
   go_wp2_with (first|(go_at_call 172;refine(Cut_any _ deadC _).mono ?_;rintro e w' ⟨rfl,rfl⟩)|(go_at_call 173;refine(Group_any _ _).mono ?_;rintro e w' ⟨rfl,hb⟩))
   try (rw[rounds_succ];go_wp2)
   go_ret2
   refine⟨rfl,?_⟩
   exact cm
 ·have e1:ofG s=cutS s retryC:=by unfold ofG;rw[h0];rfl
  have e2:ofOk s=true:=by unfold ofOk;rw[h0];rfl
  rw[e1,e2]
  clear e1 e2 h0
  go_enter Tryz.func133,Tryz.ntmps133
  go_wp2
  refine wp_loop_rounds 3 ?_
  rw[rounds_succ]
  go_wp2_with (first|(go_at_call 172;refine(Cut_any _ retryC _).mono ?_;rintro e w' ⟨rfl,rfl⟩)|(go_at_call 173;refine(Group_any _ _).mono ?_;rintro e w' ⟨rfl,hb⟩))
  go_ret2
  refine⟨rfl,?_⟩
  exact cm
end Go.Proofs.YtiahjipoofeliaaGreatDoor.nm

namespace Go.Proofs.YtiahjipoofeliaaGreatDoor.nm
open Go.ChangeShapes Go.WideShapes Go.ChangeAt Go.RowKit
end Go.Proofs.YtiahjipoofeliaaGreatDoor.nm

namespace Go.Proofs.YtiahjipoofeliaaGreatDoor.nm
open Go.ChangeShapes Go.WideShapes Go.ChangeAt Go.RowKit
def topicB (s:ByteArray):Bool:=ofOk s || plainB s
def tagB (s:ByteArray):Bool:=decide (s.size=0) || plainB s
def keyN (c:Nat):Bool:=decide (33≤c) && decide (c≤126)
def keyL (l:List UInt8):Bool:=decide (1≤l.length) && decide (l.length≤16) && l.all (fun c=>keyN c.toNat)
def keyB (s:ByteArray):Bool:=keyL s.data.toList
theorem isEmpty_iff (s:ByteArray):s.toList.isEmpty=decide (s.size=0):=by
 rw[Lib.toList_data,Bool.eq_iff_iff,List.isEmpty_iff,decide_eq_true_iff,←size_toList,List.length_eq_zero_iff]
set_option maxHeartbeats 1000000 in
theorem Topic_any (s:ByteArray) (w:World) :
  Calls Tryz.prog 84 #[.string s] w fun e w'=>e=.returned (.bool (topicB s))∧Calm w w':=by
 cases hp:ofOk s
 ·have hg:topicB s=plainB s:=by unfold topicB;rw[hp];rfl
  rw[hg]
  clear hg
  go_enter Tryz.func84,Tryz.ntmps84
  go_wp2_with (first|(go_at_call 133;refine(Of_any _ _).mono ?_;rintro e w' ⟨rfl,hb⟩)|(go_at_call 134;refine(Plain_any _ _).mono ?_;rintro e w' ⟨rfl,hb⟩))
  go_ret
  refine⟨ret_bool (by simp),?_⟩
  exact cm
 ·have hg:topicB s=true:=by unfold topicB;rw[hp];rfl
  rw[hg]
  clear hg
  go_enter Tryz.func84,Tryz.ntmps84
  go_wp2_with (first|(go_at_call 133;refine(Of_any _ _).mono ?_;rintro e w' ⟨rfl,hb⟩)|(go_at_call 134;refine(Plain_any _ _).mono ?_;rintro e w' ⟨rfl,hb⟩))
  go_ret
  refine⟨ret_bool (by simp),?_⟩
  exact cm
set_option maxHeartbeats 1000000 in
theorem Tag_any (s:ByteArray) (w:World) :
  Calls Tryz.prog 229 #[.string s] w fun e w'=>e=.returned (.bool (tagB s))∧Calm w w':=by
 have hi:=isEmpty_iff s
 by_cases h0:s.size=0
 ·have hg:tagB s=true:=by unfold tagB;simp [h0]
  have h1:s.toList=[]:=by rw[Lib.toList_data];exact List.eq_nil_of_length_eq_zero (by simpa using h0)
  rw[hg]
  clear hg hi h0
  go_enter Tryz.func229,Tryz.ntmps229
  go_wp2_with (first|(go_at_call 134;refine(Plain_any _ _).mono ?_;rintro e w' ⟨rfl,hb⟩))
  go_ret
  refine⟨ret_bool (by simp),?_⟩
  exact cm
 ·have hg:tagB s=plainB s:=by unfold tagB;simp [h0]
  have h1:s.toList.isEmpty=false:=by rw[hi];simp [h0]
  rw[hg]
  clear hg hi h0
  go_enter Tryz.func229,Tryz.ntmps229
  go_wp2_with (first|(go_at_call 134;refine(Plain_any _ _).mono ?_;rintro e w' ⟨rfl,hb⟩))
  go_ret
  refine⟨ret_bool (by simp),?_⟩
  exact cm
set_option maxHeartbeats 1000000 in
theorem Key_any (s:ByteArray) (w:World) (hs:s.size≤maxLen) :
  Calls Tryz.prog 231 #[.string s] w fun e w'=>e=.returned (.bool (keyB s))∧w=w':=by
 unfold maxLen at hs
 have hi:=isEmpty_iff s
 by_cases h0:s.size=0
 ·have hg:keyB s=false:=by unfold keyB keyL;simp [h0]
  have h1:s.toList=[]:=by rw[Lib.toList_data];exact List.eq_nil_of_length_eq_zero (by simpa using h0)
  rw[hg]
  clear hg hi h0
  go_enter Tryz.func231,Tryz.ntmps231
  go_wp2
  go_ret
  exact⟨rfl,rfl⟩
 ·have h1:s.toList.isEmpty=false:=by rw[hi];simp [h0]
  clear hi
  by_cases h2:16<s.size
  ·have hg:keyB s=false:=by unfold keyB keyL;simp;omega
   rw[hg]
   clear hg
   go_enter Tryz.func231,Tryz.ntmps231
   go_wp2
   go_ret
   exact⟨rfl,rfl⟩
  ·have hg:=box (show keyB s=s.data.toList.all (fun c=>keyN c.toNat) by unfold keyB keyL;simp;omega)
   go_enter Tryz.func231,Tryz.ntmps231
   go_wp2
   go_loop [13] (fun i=>∃k:Nat,k≤s.size∧i=.int .i64 k∧(s.data.toList.take k).all (fun c=>keyN c.toNat)=true) (fun i=>s.size-(intOf i).toNat)
   case atStart=>exact⟨0,Nat.zero_le _,rfl,rfl⟩
   case round =>
    obtain⟨k,hk,rfl,hall⟩:=hrel
    have Hall:=box hall
    clear hall
    by_cases hlt:k<s.size
    ·by_cases hb:33≤(s[k].toNat:Int)∧(s[k].toNat:Int)≤126
     ·have hn:keyN s[k].toNat=true:=by simp [keyN];omega
      have hs:=box (all_snoc s k hlt (fun c=>keyN c.toNat))
      obtain⟨hb1,hb2⟩:=hb
      have Hn:=box hn
      clear hn
      go_wp2
      go_round
      case rel=>exact⟨k+1,by omega,by go_num,by rw[hs.out,Hall.out,Bool.true_and];exact Hn.out⟩
      case measure=>simp [intOf];omega
     ·have hn:=box (all_no s k hlt (fun c=>keyN c.toNat) (by simp [keyN];omega))
      by_cases hb1:(s[k].toNat:Int)<33
      ·go_wp2
       go_ret
       exact⟨ret_bool (by rw[hg.out,hn.out]),rfl⟩
      ·have hb2:126<(s[k].toNat:Int):=by omega
       go_wp2
       go_ret
       exact⟨ret_bool (by rw[hg.out,hn.out]),rfl⟩
    ·have hn:=box (all_take s k (by omega) (fun c=>keyN c.toNat))
     go_wp2
     go_ret
     exact⟨ret_bool (by rw[hg.out,←hn.out,Hall.out]),rfl⟩
theorem rSign (c:UInt8) (h:(97≤(c.toNat:Int)∧(c.toNat:Int)≤122)∨(48≤(c.toNat:Int)∧(c.toNat:Int)≤57)∨(c.toNat:Int)=45):signB c=true:=sign_true (by omega)
theorem rSign' (c:UInt8) (h:¬((97≤(c.toNat:Int)∧(c.toNat:Int)≤122)∨(48≤(c.toNat:Int)∧(c.toNat:Int)≤57)∨(c.toNat:Int)=45)):signB c=false:=sign_false (by omega)
set_option maxHeartbeats 1000000 in
theorem rPlain_any (s:ByteArray) (w:World) (hs:s.size≤maxLen) :
  Calls Tryz.prog 38 #[.string s] w fun e w'=>e=.returned (.bool (plainB s))∧w=w':=by
 unfold maxLen at hs
 go_enter Tryz.func38,Tryz.ntmps38
 go_wp2
 go_loop [3] (fun i=>∃k:Nat,k≤s.size∧i=.int .i64 k∧(s.data.toList.take k).all signB=true) (fun i=>s.size-(intOf i).toNat)
 case atStart=>exact⟨0,Nat.zero_le _,rfl,rfl⟩
 case round =>
  obtain⟨k,hk,rfl,hall⟩:=hrel
  have Hall:=box hall
  clear hall
  by_cases hlt:k<s.size
  ·by_cases hc:(97≤(s[k].toNat:Int)∧(s[k].toNat:Int)≤122)∨(48≤(s[k].toNat:Int)∧(s[k].toNat:Int)≤57)∨(s[k].toNat:Int)=45
   ·have fin:=box (show (s.data.toList.take (k+1)).all signB=true by rw[all_snoc s k hlt signB,Hall.out,Bool.true_and];exact rSign _ hc)
    rcases hc with ⟨c1,c2⟩|⟨c1,c2⟩|c1
    ·go_wp2
     go_round
     case rel=>exact⟨k+1,by omega,by go_num,fin.out⟩
     case measure=>simp [intOf];omega
    ·go_wp2
     go_round
     case rel=>exact⟨k+1,by omega,by go_num,fin.out⟩
     case measure=>simp [intOf];omega
    ·have c2:((s[k].toNat:Int) != 45)=false:=by simp [c1]
     have C1:=box c1
     have c3:(s[k].toNat:Int)≤45:=by omega
     have c4:45≤(s[k].toNat:Int):=by omega
     clear c1
     go_wp2
     go_round
     case rel=>exact⟨k+1,by omega,by go_num,fin.out⟩
     case measure=>simp [intOf];omega
   ·have fin:=box (show plainB s=false by unfold plainB plainL;rw[all_no s k hlt signB (rSign' _ hc)];simp)
    have c2:((s[k].toNat:Int) != 45)=true:=by rw[bne_iff_ne];omega
    go_wp2
    all_goals
     first
      | (go_ret;exact⟨ret_bool (by rw[fin.out]),rfl⟩)
      | (exfalso;simp at *;omega)
  ·have hn:=box (all_take s k (by omega) signB)
   by_cases h1:1≤(s.size:Int)
   ·have hp:=box (show plainB s=decide ((s.size:Int)≤16) by unfold plainB plainL;rw[←hn.out,Hall.out,size_toList,Bool.and_true,decide_eq_true (by omega:1≤s.size),Bool.true_and];exact decide_eq_decide.2 (by omega))
    go_wp2
    go_ret
    exact⟨ret_bool (by rw[hp.out]),rfl⟩
   ·have hp:=box (plain_empty s (by omega))
    go_wp2
    go_ret
    exact⟨ret_bool (by rw[hp.out]),rfl⟩
theorem rGroup_any (s:ByteArray) (w:World) (hs:s.size≤maxLen) :
  Calls Tryz.prog 83 #[.string s] w fun e w'=>e=.returned (.bool (groupB s))∧w=w':=by
 cases hp:plainB s
 ·have hg:groupB s=false:=by unfold groupB groupL;rw[show plainL s.data.toList=false from hp];rfl
  rw[hg]
  clear hg
  go_enter Tryz.func83,Tryz.ntmps83
  go_wp2_with (go_at_call 38;refine(rPlain_any _ _ hs).mono ?_;rintro e w' ⟨rfl,rfl⟩)
  go_ret
  exact⟨rfl,rfl⟩
 ·have hg:groupB s=decide ((s.size:Int)≤8):=by
   unfold groupB groupL;rw[show plainL s.data.toList=true from hp];simp;omega
  rw[hg]
  clear hg
  go_enter Tryz.func83,Tryz.ntmps83
  go_wp2_with (go_at_call 38;refine(rPlain_any _ _ hs).mono ?_;rintro e w' ⟨rfl,rfl⟩)
  go_ret
  exact⟨rfl,rfl⟩
theorem rTag_any (s:ByteArray) (w:World) (hs:s.size≤maxLen) :
  Calls Tryz.prog 153 #[.string s] w fun e w'=>e=.returned (.bool (tagB s))∧w=w':=by
 have hi:=isEmpty_iff s
 by_cases h0:s.size=0
 ·have hg:tagB s=true:=by unfold tagB;simp [h0]
  have h1:s.toList=[]:=by rw[Lib.toList_data];exact List.eq_nil_of_length_eq_zero (by simpa using h0)
  rw[hg]
  clear hg hi h0
  go_enter Tryz.func153,Tryz.ntmps153
  go_wp2_with (go_at_call 38;refine(rPlain_any _ _ hs).mono ?_;rintro e w' ⟨rfl,rfl⟩)
  go_ret
  exact⟨rfl,rfl⟩
 ·have hg:tagB s=plainB s:=by unfold tagB;simp [h0]
  have h1:s.toList.isEmpty=false:=by rw[hi];simp [h0]
  rw[hg]
  clear hg hi h0
  go_enter Tryz.func153,Tryz.ntmps153
  go_wp2_with (go_at_call 38;refine(rPlain_any _ _ hs).mono ?_;rintro e w' ⟨rfl,rfl⟩)
  go_ret
  exact⟨ret_bool (by simp),rfl⟩
theorem rKey_any (s:ByteArray) (w:World) (hs:s.size≤maxLen) :
  Calls Tryz.prog 154 #[.string s] w fun e w'=>e=.returned (.bool (keyB s))∧w=w':=by
 unfold maxLen at hs
 go_enter Tryz.func154,Tryz.ntmps154
 go_wp2
 go_loop [3] (fun i=>∃k:Nat,k≤s.size∧i=.int .i64 k∧(s.data.toList.take k).all (fun c=>keyN c.toNat)=true) (fun i=>s.size-(intOf i).toNat)
 case atStart=>exact⟨0,Nat.zero_le _,rfl,rfl⟩
 case round =>
  obtain⟨k,hk,rfl,hall⟩:=hrel
  have Hall:=box hall
  clear hall
  by_cases hlt:k<s.size
  ·by_cases hb:33≤(s[k].toNat:Int)∧(s[k].toNat:Int)≤126
   ·have hn:keyN s[k].toNat=true:=by simp [keyN];omega
    have hs:=box (all_snoc s k hlt (fun c=>keyN c.toNat))
    obtain⟨hb1,hb2⟩:=hb
    have Hn:=box hn
    clear hn
    go_wp2
    go_round
    case rel=>exact⟨k+1,by omega,by go_num,by rw[hs.out,Hall.out,Bool.true_and];exact Hn.out⟩
    case measure=>simp [intOf];omega
   ·have hn:=box (show keyB s=false by unfold keyB keyL;rw[all_no s k hlt (fun c=>keyN c.toNat) (by simp [keyN];omega)];simp)
    by_cases hb1:(s[k].toNat:Int)<33
    ·go_wp2
     go_ret
     exact⟨ret_bool (by rw[hn.out]),rfl⟩
    ·have hb2:126<(s[k].toNat:Int):=by omega
     go_wp2
     go_ret
     exact⟨ret_bool (by rw[hn.out]),rfl⟩
  ·have hn:=box (all_take s k (by omega) (fun c=>keyN c.toNat))
   by_cases h1:1≤(s.size:Int)
   ·have hp:=box (show keyB s=decide ((s.size:Int)≤16) by unfold keyB keyL;rw[←hn.out,Hall.out,size_toList,Bool.and_true,decide_eq_true (by omega:1≤s.size),Bool.true_and];exact decide_eq_decide.2 (by omega))
    go_wp2
    go_ret
    exact⟨ret_bool (by rw[hp.out]),rfl⟩
   ·have hp:=box (show keyB s=false by unfold keyB keyL;rw[size_toList,decide_eq_false (by omega:¬1≤s.size)];rfl)
    go_wp2
    go_ret
    exact⟨ret_bool (by rw[hp.out]),rfl⟩
theorem rHas_any (s h:ByteArray) (w:World) (hs:s.size≤maxLen) (hh:h.size≤100) :
  Calls Tryz.prog 82 #[.string s,.string h] w fun e w'=>e=.returned (.bool (hasS s h))∧w=w':=by
 unfold maxLen at hs
 have hr:=Lib.hasPrefix_raw s h
 by_cases h1:h.size≤s.size
 ·have hp:=box (show hasS s h=((s.extract 0 h.size).toList==h.toList) by unfold hasS;rw[←hr];simp [h1])
  clear hr
  go_enter Tryz.func82,Tryz.ntmps82
  go_wp2
  go_ret
  exact⟨ret_bool (by rw[hp.out]),rfl⟩
 ·have hp:=box (show hasS s h=false by unfold hasS;rw[←hr];simp [h1])
  clear hr
  go_enter Tryz.func82,Tryz.ntmps82
  go_wp2
  go_ret
  exact⟨ret_bool (by rw[hp.out]),rfl⟩
theorem hasS_raw (s h:ByteArray):hasS s h=(decide (h.size≤s.size) && ((s.extract 0 h.size).toList==h.toList)):=by
 unfold hasS;rw[Lib.hasPrefix_raw]
theorem hasS_size {s h:ByteArray} (g:hasS s h=true):h.size≤s.size:=by
 rw[hasS_raw]at g;simp at g;exact g.1
theorem cutS_hit {s h:ByteArray} (g:hasS s h=true):cutS s h=s.extract h.size s.size:=by
 rw[hasS_raw,Bool.and_eq_true]at g
 exact Lib.trimPrefix_hit s h (by simpa using g.1) g.2
set_option maxHeartbeats 1000000 in
theorem rOf_any (s:ByteArray) (w:World) (hs:s.size≤maxLen) :
  Calls Tryz.prog 39 #[.string s] w fun e w'=>e=.returned (.string (ofG s))∧w=w':=by
 have h7:(s.extract 7 s.size).size≤maxLen:=by simp;omega
 have h6:(s.extract 6 s.size).size≤maxLen:=by simp;omega
 have s7:hasS s retryC=true→7≤(s.size:Int):=fun h=>by have:=hasS_size h;simp [retryC]at this;have e:(ByteArray.mk #[37,114,101,116,114,121,37]).size=7:=rfl;omega
 have s6:hasS s deadC=true→6≤(s.size:Int):=fun h=>by have:=hasS_size h;simp [deadC]at this;have e:(ByteArray.mk #[37,100,101,97,100,37]).size=6:=rfl;omega
 have c7:hasS s retryC=true→cutS s retryC=s.extract 7 s.size:=fun h=>cutS_hit h
 have c6:hasS s deadC=true→cutS s deadC=s.extract 6 s.size:=fun h=>cutS_hit h
 rcases three s retryC with ⟨h0,h1⟩|⟨h0,h1,h2⟩|⟨h0,h1,h2⟩
 ·rcases three s deadC with ⟨g0,g1⟩|⟨g0,g1,g2⟩|⟨g0,g1,g2⟩
  ·have e1:=box (show ofG s=⟨#[]⟩ by unfold ofG;rw[h0,g0];rfl)
   clear h7 h6 s7 s6 c7 c6 h0 g0
   go_enter Tryz.func39,Tryz.ntmps39
   go_wp2_with (first|(go_at_call 82;refine(rHas_any _ _ _ hs (by decide)).mono ?_;rintro e w' ⟨rfl,rfl⟩)|(go_at_call 83;refine(rGroup_any _ _ (by assumption)).mono ?_;rintro e w' ⟨rfl,rfl⟩))
   go_ret
   exact⟨ret_str (by rw[e1.out]),rfl⟩
  ·have e1:=box (show ofG s=⟨#[]⟩ by unfold ofG;rw[h0,g0];rfl)
   have z6:=s6 g1
   rw[c6 g1]at g2
   clear s7 s6 c7 c6 h0 g0
   go_enter Tryz.func39,Tryz.ntmps39
   go_wp2_with (first|(go_at_call 82;refine(rHas_any _ _ _ hs (by decide)).mono ?_;rintro e w' ⟨rfl,rfl⟩)|(go_at_call 83;refine(rGroup_any _ _ (by assumption)).mono ?_;rintro e w' ⟨rfl,rfl⟩))
   go_ret
   exact⟨ret_str (by rw[e1.out]),rfl⟩
  ·have e1:=box (show ofG s=s.extract 6 s.size by unfold ofG;rw[h0,g0,c6 g1];rfl)
   have z6:=s6 g1
   rw[c6 g1]at g2
   clear s7 s6 c7 c6 h0 g0
   go_enter Tryz.func39,Tryz.ntmps39
   go_wp2_with (first|(go_at_call 82;refine(rHas_any _ _ _ hs (by decide)).mono ?_;rintro e w' ⟨rfl,rfl⟩)|(go_at_call 83;refine(rGroup_any _ _ (by assumption)).mono ?_;rintro e w' ⟨rfl,rfl⟩))
   go_ret
   exact⟨ret_str (by rw[e1.out]),rfl⟩
 ·have z7:=s7 h1
  rw[c7 h1]at h2
  rcases three s deadC with ⟨g0,g1⟩|⟨g0,g1,g2⟩|⟨g0,g1,g2⟩
  ·have e1:=box (show ofG s=⟨#[]⟩ by unfold ofG;rw[h0,g0];rfl)
   clear s7 s6 c7 c6 h0 g0
   go_enter Tryz.func39,Tryz.ntmps39
   go_wp2_with (first|(go_at_call 82;refine(rHas_any _ _ _ hs (by decide)).mono ?_;rintro e w' ⟨rfl,rfl⟩)|(go_at_call 83;refine(rGroup_any _ _ (by assumption)).mono ?_;rintro e w' ⟨rfl,rfl⟩))
   go_ret
   exact⟨ret_str (by rw[e1.out]),rfl⟩
  ·have e1:=box (show ofG s=⟨#[]⟩ by unfold ofG;rw[h0,g0];rfl)
   have z6:=s6 g1
   rw[c6 g1]at g2
   clear s7 s6 c7 c6 h0 g0
   go_enter Tryz.func39,Tryz.ntmps39
   go_wp2_with (first|(go_at_call 82;refine(rHas_any _ _ _ hs (by decide)).mono ?_;rintro e w' ⟨rfl,rfl⟩)|(go_at_call 83;refine(rGroup_any _ _ (by assumption)).mono ?_;rintro e w' ⟨rfl,rfl⟩))
   go_ret
   exact⟨ret_str (by rw[e1.out]),rfl⟩
  ·have e1:=box (show ofG s=s.extract 6 s.size by unfold ofG;rw[h0,g0,c6 g1];rfl)
   have z6:=s6 g1
   rw[c6 g1]at g2
   clear s7 s6 c7 c6 h0 g0
   go_enter Tryz.func39,Tryz.ntmps39
   go_wp2_with (first|(go_at_call 82;refine(rHas_any _ _ _ hs (by decide)).mono ?_;rintro e w' ⟨rfl,rfl⟩)|(go_at_call 83;refine(rGroup_any _ _ (by assumption)).mono ?_;rintro e w' ⟨rfl,rfl⟩))
   go_ret
   exact⟨ret_str (by rw[e1.out]),rfl⟩
 ·have z7:=s7 h1
  have e1:=box (show ofG s=s.extract 7 s.size by unfold ofG;rw[h0,c7 h1];rfl)
  rw[c7 h1]at h2
  clear s7 s6 c7 c6 h0
  go_enter Tryz.func39,Tryz.ntmps39
  go_wp2_with (first|(go_at_call 82;refine(rHas_any _ _ _ hs (by decide)).mono ?_;rintro e w' ⟨rfl,rfl⟩)|(go_at_call 83;refine(rGroup_any _ _ (by assumption)).mono ?_;rintro e w' ⟨rfl,rfl⟩))
  go_ret
  exact⟨ret_str (by rw[e1.out]),rfl⟩
theorem ofOk_iff (s:ByteArray):ofOk s = !decide ((ofG s).size=0):=by
 have hg:∀x:ByteArray,groupB x=true→x.size≠0:=by
  intro x h hz
  unfold groupB groupL plainL at h
  simp [hz]at h
 unfold ofOk ofG
 cases h1:hitS s retryC
 ·cases h2:hitS s deadC
  ·rfl
  ·have:groupB (cutS s deadC)=true:=by unfold hitS at h2;simp at h2;exact h2.2
   simp [hg _ this]
 ·have:groupB (cutS s retryC)=true:=by unfold hitS at h1;simp at h1;exact h1.2
  simp [hg _ this]
set_option maxHeartbeats 1000000 in
theorem rTopic_any (s:ByteArray) (w:World) (hs:s.size≤maxLen) :
  Calls Tryz.prog 8 #[.string s] w fun e w'=>e=.returned (.bool (topicB s))∧w=w':=by
 have hi:=isEmpty_iff (ofG s)
 have ho:=ofOk_iff s
 cases hp:plainB s
 ·have hg:=box (show topicB s = !(ofG s).toList.isEmpty by unfold topicB;rw[hp,hi,Bool.or_false,ho])
  clear hi ho
  obtain⟨g,hgg⟩:∃g,ofG s=g:=⟨_,rfl⟩
  have hc:=fun W=>rOf_any s W hs
  rw[hgg]at hg
  simp only[hgg]at hc
  have Hc:=box hc
  clear hc hgg
  go_enter Tryz.func8,Tryz.ntmps8
  go_wp2_with (first|(go_at_call 38;refine(rPlain_any _ _ hs).mono ?_;rintro e w' ⟨rfl,rfl⟩)|(go_at_call 39;refine(Hc.out _).mono ?_;rintro e w' ⟨rfl,rfl⟩))
  go_ret
  exact⟨ret_bool (by rw[hg.out]),rfl⟩
 ·have hg:=box (show topicB s=true by unfold topicB;rw[hp];simp)
  clear hi ho
  go_enter Tryz.func8,Tryz.ntmps8
  go_wp2_with (first|(go_at_call 38;refine(rPlain_any _ _ hs).mono ?_;rintro e w' ⟨rfl,rfl⟩) )
  go_ret
  exact⟨ret_bool (by rw[hg.out]),rfl⟩
theorem allP_snoc (l:List ByteArray) (k:Nat) (hk:k<l.length) (p:ByteArray→Bool):(l.take (k+1)).all p=((l.take k).all p && p (l.getD k ByteArray.empty)):=by
 rw[List.take_succ_eq_append_getElem hk,List.all_append];simp [List.getD_eq_getElem?_getD,List.getElem?_eq_getElem hk]
theorem allP_no (l:List ByteArray) (k:Nat) (hk:k<l.length) (p:ByteArray→Bool) (h:p (l.getD k ByteArray.empty)=false):l.all p=false:=by
 rw[List.all_eq_false]
 exact⟨l[k],List.getElem_mem _,by simpa [List.getD_eq_getElem?_getD,List.getElem?_eq_getElem hk] using h⟩
end Go.Proofs.YtiahjipoofeliaaGreatDoor.nm

namespace Go.Proofs.YtiahjipoofeliaaGreatDoor.rc
open Go.ChangeShapes Go.WideShapes Go.ChangeAt Go.RowKit Go.Shelf
open nm vs
def numB (x:Int):Bool:=decide (0≤x) && decide (x≤1099511627776)
def numsB (m:MsgS):Bool:=numB m.due && numB m.ref && numB m.born
theorem numB_iff {x:Int}:numB x=true↔0≤x∧x≤1099511627776:=by unfold numB;simp
def Carries (m:MsgS):Prop:=topicB m.topic=true∧0≤m.queue∧m.queue<3∧0≤m.retry∧m.retry≤4∧tagB m.tag=true∧m.keys.length≤3∧m.keys.all nm.keyB=true∧unlikeB m.keys=true∧m.body.size≤200
instance (m:MsgS):Decidable (Carries m):=by unfold Carries;exact inferInstance
theorem nums1_any (x:Int) (w:World):Calls Tryz.prog 228 #[.int .i64 x] w fun e w'=>e=.returned (.bool (!numB x))∧w'=w:=by
 go_enter Tryz.func228,Tryz.ntmps228
 go_wp2_with fail
 all_goals
  go_ret
  exact⟨ret_bool (by rw[Bool.eq_iff_iff];simp [numB]<;>omega),rfl⟩
theorem nums_any (b:Nat) (x y z:Int) (w:World) (h:w.heap[b]? = some (.cells #[.int .i64 x,.int .i64 y,.int .i64 z] 3 (0,0))) :
  Calls Tryz.prog 189 #[.slice (some ⟨b,0,none⟩) 3 3] w fun e w'=>e=.returned (.bool (numB x && numB y && numB z))∧Calm w w':=by
 have H:=box (Tryz.slices_ContainsFunc (Value.int .i64) (fun n=>!numB n) 228 #[] (enters_of Tryz.func228 (by kernel_rfl) rfl) b 0 3 3 [x,y,z] w
  (fun W n _=>(nums1_any n W).mono fun e w' ⟨h1,h2⟩=>⟨h1,0,by rw[h2];rfl⟩) (by simp) (by omega) (fun j hj=>by
   rw[Nat.zero_add,cell_of h]
   match j,hj with
   | 0,_=>rfl
   | 1,_=>rfl
   | 2,_=>rfl))
 go_enter Tryz.func189,Tryz.ntmps189
 go_wp2_with fail
 refine H.out.mono ?_
 rintro e w1 ⟨rfl,q,rfl⟩
 go_wp2_with fail
 go_ret
 exact⟨ret_bool (by simp [Bool.and_assoc]),(Calm.refl _).drewN _⟩
set_option maxHeartbeats 1000000 in
theorem AllKey_any (v:Value) (l:List ByteArray) (w:World) (hv:StrsAt w v l) (hl:l.length≤4294967296) (hsz:∀s∈l,s.size≤maxLen) :
  Calls Tryz.prog 230 #[.func (.func 231) #[] #[],v] w fun e w'=>e=.returned (.bool (l.all nm.keyB))∧Calm w w':=by
 rcases hv with ⟨rfl,a,cap,rfl⟩|⟨b,off,cap,rfl,hc⟩
 ·go_enter Tryz.func230,Tryz.ntmps230
  go_wp2
  refine wp_loop_rounds 1 ?_
  rw[rounds_succ]
  go_wp2
  go_ret
  exact⟨rfl,Calm.refl _⟩
 ·have hlt:∀k,k<l.length→b<w.heap.size:=fun k hk=>by
   have h1:=hc k hk
   unfold World.cell? at h1
   by_cases hb:b<w.heap.size
   ·exact hb
   ·simp [Array.getElem?_eq_none (Nat.le_of_not_lt hb)]at h1
  have Hc:=box hc
  have Hsz:=box hsz
  clear hsz
  have Hlt:=box hlt
  clear hc hlt
  go_enter Tryz.func230,Tryz.ntmps230
  go_wp2
  go_loopw [9] (fun i wr=>∃k:Nat,k≤l.length∧i=.int .i64 k∧(l.take k).all nm.keyB=true∧Calm w wr) (fun i _=>l.length-(intOf i).toNat)
  case atStart=>exact⟨0,Nat.zero_le _,rfl,rfl,Calm.refl _⟩
  case round =>
   obtain⟨k,hk,rfl,hall,hcalm⟩:=hrel
   have Hall:=box hall
   clear hall
   by_cases hlt:k<l.length
   ·have hcell:wr.cell? ⟨b,off+k,none⟩=some (.string (l.getD k ByteArray.empty)):=by
     rw[hcalm.cell (p:=⟨b,off+k,none⟩) (Hlt.out k hlt)];exact Hc.out k hlt
    have hsn:=box (allP_snoc l k hlt nm.keyB)
    have hno:=box (allP_no l k hlt nm.keyB)
    obtain⟨s,hs⟩:∃s,l.getD k ByteArray.empty=s:=⟨_,rfl⟩
    have hss:s.size≤maxLen:=by rw[←hs,List.getD_eq_getElem?_getD,List.getElem?_eq_getElem hlt];exact Hsz.out _ (List.getElem_mem _)
    rw[hs]at hcell hsn hno
    clear hs
    have hq:∀W,Sem.run Tryz.prog (binOp BinOp.eql 35 (Value.func (Fn.func 231) #[] #[]) Value.nilFunc) W=Result.ok (Value.bool false) W:=fun W=>by kernel_rfl
    cases hp:nm.keyB s
    ·go_wp2_with (first|(go_at_call 231;refine(Key_any _ _ (by assumption)).mono ?_;rintro e w' ⟨rfl,hb⟩))
     go_ret
     refine⟨ret_bool (by rw[hno.out hp]),?_⟩
     subst hb
     exact hcalm
    ·go_wp2_with (first|(go_at_call 231;refine(Key_any _ _ (by assumption)).mono ?_;rintro e w' ⟨rfl,hb⟩))
     go_roundw
     case rel =>
      refine⟨k+1,by omega,by go_num,by rw[hsn.out,Hall.out,hp];rfl,?_⟩
      subst hb
      exact hcalm
     case measure=>simp [intOf];omega
   ·obtain rfl:k=l.length:=by omega
    have hfin:=box (show l.all nm.keyB=true by have:=Hall.out;rwa[List.take_length]at this)
    go_wp2
    go_ret
    exact⟨ret_bool (by rw[hfin.out]),by assumption⟩
abbrev MsgAt (w:World) (b:Nat) (m:MsgS) (kv:Value):Prop:=w.heap[b]? = some (.cells (msgA m kv) 63 (0,0))
set_option maxHeartbeats 4000000 in
theorem carries_any (m:MsgS) (kv:Value) (w:World) (hk:StrsAt w kv m.keys) (hs:∀s∈m.keys,s.size≤maxLen) :
  Calls Tryz.prog 190 #[.agg (msgA m kv)] w fun e w'=>e=.returned (.bool (decide (Carries m)))∧Calm w w':=by
 obtain⟨kd,q,du,rt,rf,bn,tp,tg,bd,ks⟩:=m
 simp only at hk hs
 obtain⟨a,cap,rfl,_⟩:=hk.uni
 have Hn:=box (heap_new w (.cells (msgA ⟨kd,q,du,rt,rf,bn,tp,tg,bd,ks⟩ (.slice a ks.length cap)) 63))
 have H0:=box ((Calm.refl w).alloc (.cells (msgA ⟨kd,q,du,rt,rf,bn,tp,tg,bd,ks⟩ (.slice a ks.length cap)) 63))
 have Hk:=box (hk.calm H0.out)
 have Hs:=box hs
 clear hk hs
 go_enter Tryz.func190,Tryz.ntmps190
 go_wp2_with fail
 refine(Topic_any tp _).mono ?_
 rintro e w1 ⟨rfl,hc1⟩
 have H1:=box (H0.out.trans hc1)
 have J1:=box (heap_calm hc1 Hn.out)
 have Hk1:=box (Hk.out.calm hc1)
 clear hc1
 have hq1:=cell_of J1.out 1
 have hq3:=cell_of J1.out 3
 have hq7:=cell_of J1.out 7
 have hlt:=heap_lt J1.out
 cases htp:topicB tp
 ·go_wp2_with fail
  go_ret
  exact⟨ret_bool (decide_eq_false (fun h=>by have:=h.1;rw[htp]at this;cases this)).symm,H1.out⟩
 ·go_wp2_with fail
  all_goals first|(go_ret;exact⟨ret_bool (decide_eq_false (fun h=>by obtain⟨_,h2,h3,h4,h5,_⟩:=h;simp only at h2 h3 h4 h5;omega)).symm,H1.out⟩)|skip
  clear hq1 hq3 hq7 hlt
  refine(Tag_any tg _).mono ?_
  rintro e w2 ⟨rfl,hc2⟩
  have H2:=box (H1.out.trans hc2)
  have J2:=box (heap_calm hc2 J1.out)
  have Hk2:=box (Hk1.out.calm hc2)
  clear hc2
  have hq9:=cell_of J2.out 9
  have hlt:=heap_lt J2.out
  cases htg:tagB tg
  ·go_wp2_with fail
   (go_ret;exact⟨ret_bool (decide_eq_false (fun h=>by obtain⟨h1,h2,h3,h4,h5,h6,h7,h8,h9,h10⟩:=h;simp only at h2 h3 h4 h5 h7 h10;first|omega|(rw[htg]at h6;cases h6))).symm,H2.out⟩)
  ·go_wp2_with fail
   all_goals first|(go_ret;exact⟨ret_bool (decide_eq_false (fun h=>by obtain⟨h1,h2,h3,h4,h5,h6,h7,h8,h9,h10⟩:=h;simp only at h2 h3 h4 h5 h7 h10;first|omega|(rw[htg]at h6;cases h6))).symm,H2.out⟩)|skip
   clear hq9 hlt
   refine(AllKey_any _ ks _ Hk2.out (by omega) Hs.out).mono ?_
   rintro e w3 ⟨rfl,hc3⟩
   have H3:=box (H2.out.trans hc3)
   have J3:=box (heap_calm hc3 J2.out)
   have Hk3:=box (Hk2.out.calm hc3)
   clear hc3
   have hq9:=cell_of J3.out 9
   have hlt:=heap_lt J3.out
   cases hak:ks.all nm.keyB
   ·go_wp2_with fail
    (go_ret;exact⟨ret_bool (decide_eq_false (fun h=>by obtain⟨h1,h2,h3,h4,h5,h6,h7,h8,h9,h10⟩:=h;simp only at h2 h3 h4 h5 h7 h10;first|omega|(rw[hak]at h8;cases h8))).symm,H3.out⟩)
   ·go_wp2_with fail
    clear hq9 hlt
    refine(unlike_any _ ks _ Hk3.out (by omega)).mono ?_
    rintro e w4 ⟨rfl,hc4⟩
    have H4:=box (H3.out.trans hc4)
    have J4:=box (heap_calm hc4 J3.out)
    clear hc4
    have hq8:=cell_of J4.out 8
    have hlt:=heap_lt J4.out
    cases hun:unlikeB ks
    ·go_wp2_with fail
     (go_ret;exact⟨ret_bool (decide_eq_false (fun h=>by obtain⟨h1,h2,h3,h4,h5,h6,h7,h8,h9,h10⟩:=h;simp only at h2 h3 h4 h5 h7 h10;first|omega|(rw[hun]at h9;cases h9))).symm,H4.out⟩)
    ·go_wp2_with fail
     go_ret
     refine⟨ret_bool ?_,H4.out⟩
     rw[Bool.eq_iff_iff]
     simp only[decide_eq_true_eq]
     constructor
     ·intro hb
      exact⟨htp,by simp only;omega,by simp only;omega,by simp only;omega,by simp only;omega,htg,by simp only;omega,hak,hun,by simp only;omega⟩
     ·intro h
      have:=h.2.2.2.2.2.2.2.2.2
      simp only at this
      omega
end Go.Proofs.YtiahjipoofeliaaGreatDoor.rc
