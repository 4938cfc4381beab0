/- Lemmas for this claim. -/
import Derived.Deep.Slices
import Derived.Test.YtiahjipoofeliaaGreatDoorPk9
set_option maxRecDepth 100000
namespace Go.Proofs.YtiahjipoofeliaaGreatDoor
open Go.ChangeShapes Go.WideShapes Go.ChangeAt Go.RowKit
theorem list_of {α:Type}:∀(n:Nat) (Q:Nat→α→Prop),(∀i,i<n→∃x,Q i x)→∃l:List α,l.length=n∧∀i (hi:i<l.length),Q i l[i]
 | 0,_,_=>⟨[],rfl,fun i hi=>absurd hi (Nat.not_lt_zero _)⟩
 | n+1,Q,h=>by
  obtain⟨x,hx⟩:=h 0 (Nat.succ_pos _)
  obtain⟨l,hl,hq⟩:=list_of n (fun i=>Q (i+1)) (fun i hi=>h (i+1) (by omega))
  refine⟨x :: l,by simp [hl],fun i hi=>?_⟩
  cases i with
  | zero=>exact hx
  | succ i=>exact hq i (by simpa using hi)
abbrev Reads (α:Type):=World→List Value→α→Prop
def Reads.Lasts {α:Type} (R:Reads α):Prop:=∀w w' cs x,R w cs x→Calm w w'→R w' cs x
def IntR (k:IntKind):Reads Int:=fun _ cs n=>cs=[.int k n]∧k.min≤n∧n≤k.max
def BoolR:Reads Bool:=fun _ cs b=>cs=[.bool b]
def StrR:Reads ByteArray:=fun _ cs s=>cs=[.string s]∧s.size≤maxLen
def RowsAt {α:Type} (R:Reads α) (c:Nat) (w:World) (v:Value) (l:List α):Prop :=
 ∃a cap,v=.slice a l.length cap∧l.length≤cap∧cap≤maxLen∧∀i (hi:i<l.length),∃b off cs,a=some ⟨b,off,none⟩∧b<w.heap.size∧cs.length=c∧(∀j,j<c→w.cell? ⟨b,off+i * c+j,none⟩=cs[j]?)∧R w cs l[i]
def SliceR {α:Type} (R:Reads α) (c:Nat):Reads (List α):=fun w cs l=>∃v,cs=[v]∧RowsAt R c w v l
theorem BoolR.lasts:BoolR.Lasts:=fun _ _ _ _ h _=>h
theorem StrR.lasts:StrR.Lasts:=fun _ _ _ _ h _=>h
theorem RowsAt.calm {α:Type} {R:Reads α} {c:Nat} {w w':World} {v:Value} {l:List α} (h:RowsAt R c w v l) (hR:R.Lasts) (hc:Calm w w'):RowsAt R c w' v l:=by
 obtain⟨a,cap,h1,h2,h3,h4⟩:=h
 refine⟨a,cap,h1,h2,h3,fun i hi=>?_⟩
 obtain⟨b,off,cs,e,hb,hl,hcell,hr⟩:=h4 i hi
 exact⟨b,off,cs,e,Nat.lt_of_lt_of_le hb hc.size,hl,fun j hj=>by rw[hc.cell (p:=⟨b,off+i * c+j,none⟩) hb];exact hcell j hj,hR _ _ _ _ hr hc⟩
section
variable {H:Type} {enc:TypeId×Value→H} {P:Program} {w:World} {base:Nat} {sp:Nat→Bool} {held:Bool} {fuel:Nat} {t e:TypeId} {cs:List Value} {x:DataW H×List MemPlace}
def Opens {α:Type} (P:Program) (t:TypeId) (R:Reads α):Prop :=
 ∀(H:Type) (enc:TypeId×Value→H) (w:World) (base:Nat) (sp:Nat→Bool) (held:Bool) (fuel:Nat) (cs:List Value) (x:DataW H×List MemPlace),DataW.trod enc P w base sp held fuel t cs=some x→∃y,R w cs y
theorem opens_int {k:IntKind} (ht:P.underlying t=some (.int k)):Opens P t (IntR k):=fun _ _ _ _ _ _ _ _ _ h=>by
 obtain⟨n,h1,_,h3⟩:=DataW.trod_int ht h
 unfold Lit.wf at h3
 simp at h3
 exact⟨n,h1,h3.1,h3.2⟩
theorem opens_bool (ht:P.underlying t=some .bool):Opens P t BoolR:=fun _ _ _ _ _ _ _ _ _ h=>by
 obtain⟨b,h1,_⟩:=DataW.trod_bool ht h
 exact⟨b,h1⟩
theorem opens_string (ht:P.underlying t=some .string):Opens P t StrR:=fun _ _ _ _ _ _ _ _ _ h=>by
 obtain⟨s,h1,_,h3⟩:=DataW.trod_string ht h
 exact⟨s,h1,h3⟩
open Go.Deep in
theorem opens_slice {α:Type} {R:Reads α} {c:Nat} (ht:P.underlying t=some (.slice e)) (hc:P.cellsOf e=c) (h0:0<c) (hR:Opens P e R):Opens P t (SliceR R c):=fun H enc w base sp held fuel cs x h=>by
 rcases open_slice ht h with ⟨rfl,_⟩|⟨a,len,cap,m,n,D,Pl,rfl,hb,hl,hm,hmm,_,hi⟩
 ·exact⟨[],_,rfl,none,0,rfl,Nat.le_refl _,Nat.zero_le _,fun i hi=>absurd hi (Nat.not_lt_zero _)⟩
 ·have hlm:len≤m:=by rw[hmm];split<;>omega
  have hsp:len=0∨a.spot=none:=by
   by_cases h0':len=0
   ·exact .inl h0'
   ·obtain⟨cs',hcs,_⟩:=hi 0 (by omega)
    rw[hc]at hcs
    obtain⟨_,hlen,hcell⟩:=World.cells?_some hcs
    have hc0:=hcell 0 h0
    obtain⟨u,hu⟩:=Option.isSome_iff_exists.1 (show (cs'[0]?).isSome=true by rw[List.getElem?_eq_getElem (by omega)];rfl)
    rw[hu]at hc0
    exact .inr (by simpa [Addr.add] using World.cell?_spot hc0)
  obtain⟨l,hlen,hq⟩:=list_of len (fun i y=>∃b off cs,(some a)=some ⟨b,off,none⟩∧b<w.heap.size∧cs.length=c∧(∀j,j<c→w.cell? ⟨b,off+i * c+j,none⟩=cs[j]?)∧R w cs y) (fun i hil=>by
   obtain⟨cs',hcs,ht'⟩:=hi i (by omega)
   rw[hc]at hcs
   obtain⟨_,hlen,hcell⟩:=World.cells?_some hcs
   obtain⟨y,hy⟩:=hR _ _ _ _ _ _ _ _ _ ht'
   obtain⟨b,off,spot⟩:=a
   have hc0:=hcell 0 h0
   have hs:(cs'[0]?).isSome=true:=by rw[List.getElem?_eq_getElem (by omega)];rfl
   obtain⟨u,hu⟩:=Option.isSome_iff_exists.1 hs
   rw[hu]at hc0
   have hspot:spot=none:=by
    rcases hsp with h|h
    ·omega
    ·exact h
   subst hspot
   rw[add_plain,add_plain]at hc0
   refine⟨y,b,off,cs',rfl,World.block_lt_of_cell? w _ hc0,hlen,fun j hj=>?_,hy⟩
   rw[←hcell j hj,add_plain,add_plain])
  subst hlen
  exact⟨l,_,rfl,some a,cap,rfl,hl,hm,hq⟩
theorem Opens.arg {α:Type} {R:Reads α} (h:Opens P t R) {v:Value} {d:DataW H} {ps:List MemPlace} (hd:DataW.Trod enc P w base sp held t v d ps):∃y,R w v.cells.toList y:=by
 obtain⟨fuel,hf⟩:=hd
 exact h _ _ _ _ _ _ _ _ _ hf
end
theorem RowsAt.strs {w:World} {v:Value} {l:List ByteArray} (h:RowsAt StrR 1 w v l):StrsAt w v l∧(∀s∈l,s.size≤maxLen)∧l.length≤maxLen:=by
 obtain⟨a,cap,rfl,h2,h3,h4⟩:=h
 have hmem:∀s∈l,s.size≤maxLen:=fun s hs=>by
  obtain⟨i,hi,rfl⟩:=List.mem_iff_getElem.1 hs
  obtain⟨_,_,_,_,_,_,_,_,hr⟩:=h4 i hi
  exact hr
 refine⟨?_,hmem,by omega⟩
 cases l with
 | nil=>exact .inl ⟨rfl,_,_,rfl⟩
 | cons s l =>
  obtain⟨b,off,cs,rfl,_⟩:=h4 0 (by simp)
  refine .inr ⟨b,off,cap,rfl,fun k hk=>?_⟩
  obtain⟨b',off',cs',e,hb,hl,hcell,hr,_⟩:=h4 k hk
  cases e
  have:=hcell 0 (by omega)
  rw[hr]at this
  simp only[Nat.mul_one,Nat.add_zero]at this
  rw[this,List.getD_eq_getElem?_getD,List.getElem?_eq_getElem hk];rfl
structure Owns (W w:World) (F:Nat→Prop):Prop where
 calm:Calm W w
 foot:∀b,F b→W.heap.size≤b
theorem Owns.step {W w w':World} {F F':Nat→Prop} (h:Owns W w F) (s:Step F w F' w'):Owns W w' F' :=
 have:=s.below h.calm.size h.foot
 ⟨Below.trans h.calm this.1,this.2⟩
theorem Owns.calm' {W w w':World} {F:Nat→Prop} (h:Owns W w F) (c:Calm w w'):Owns W w' F:=⟨h.calm.trans c,h.foot⟩
theorem RowsAt.lt {α:Type} {R:Reads α} {c:Nat} {w:World} {v:Value} {l:List α} (h:RowsAt R c w v l) {a:Addr} {n m:Nat} (e:v=.slice (some a) n m) (hn:0<n):a.block<w.heap.size:=by
 obtain⟨a',cap,rfl,_,_,h4⟩:=h
 cases e
 obtain⟨b,off,cs,e,hb,_⟩:=h4 0 hn
 cases e
 exact hb
end Go.Proofs.YtiahjipoofeliaaGreatDoor

namespace Go.Proofs.YtiahjipoofeliaaGreatDoor.dk
open Go.ChangeShapes Go.WideShapes Go.ChangeAt Go.RowKit
structure DiskOk (w:World) (p:Nat) (D:DiskS) (F:Nat→Prop) (n:Nat):Prop where
 lies:DiskAt w p D F
 good:Good D
 waits:D.waits.length≤n
def OkDone (r:Int×DiskS) (p:Nat) (F:Nat→Prop) (n:Nat) (w:World) (e:Ending) (w':World):Prop:=e=.returned (.int .i64 r.1)∧∃F',DiskOk w' p r.2 F' n∧Step F w F' w'
theorem OkDone.at {r:Int×DiskS} {p n:Nat} {F:Nat→Prop} {w w':World} {e:Ending} (h:OkDone r p F n w e w') {k:Int} {E:DiskS} (hr:r=(k,E)):e=.returned (.int .i64 k)∧∃F',DiskOk w' p E F' n∧Step F w F' w':=by
 subst hr;exact h
section
variable {w w':World} {p n:Nat} {D:DiskS} {F:Nat→Prop}
theorem DiskOk.calm (h:DiskOk w p D F n) (hc:Calm w w'):DiskOk w' p D F n:=⟨h.lies.calm hc,h.good,h.waits⟩
theorem DiskOk.mono (h:DiskOk w p D F n) {m:Nat} (hm:n≤m):DiskOk w p D F m:=⟨h.lies,h.good,Nat.le_trans h.waits hm⟩
theorem DiskOk.form (h:DiskOk w p D F n):Form D:=h.lies.form
theorem DiskOk.foot_lt (h:DiskOk w p D F n):∀b,F b→b<w.heap.size:=by
 obtain⟨mb,wv,h1,rfl⟩:=h.lies;exact h1.foot_lt
theorem DiskOk.keep (h:DiskOk w p D F n) {G:Nat→Prop} (k:Keeps G w w') (hG:∀b,F b→¬G b):DiskOk w' p D F n:=by
 obtain⟨mb,wv,h1,rfl⟩:=h.lies
 exact⟨⟨mb,wv,h1.keep k hG,rfl⟩,h.good,h.waits⟩
theorem DiskOk.head (h:DiskOk w p D F n):F p:=by obtain⟨mb,wv,h1,rfl⟩:=h.lies;exact .inl rfl
theorem _root_.Go.Proofs.YtiahjipoofeliaaGreatDoor.Owns.apart {α:Type} {R:Reads α} {c:Nat} {W w:World} {F:Nat→Prop} {v:Value} {l:List α} (h:Owns W w F) (hr:RowsAt R c W v l):Apart v F:=fun a n m e hn hf=>by
 have:=hr.lt e hn
 have:=h.foot _ hf
 omega
theorem doing_waits {f:DiskS→DiskS} {m:Nat} (h:D.waits.length≤m) (hf:(f D.burn).waits.length≤m):(D.doing f).2.waits.length≤m:=by
 unfold DiskS.doing;split
 ·rw[burn_files.2.1];exact h
 ·exact hf
theorem create_waits (s:ByteArray) (b:Nat):(D.create s b).2.waits.length≤D.waits.length:=by
 unfold DiskS.create;split;exact Nat.le_refl _
 split;exact Nat.le_refl _
 exact doing_waits (Nat.le_refl _) (by show D.burn.waits.length≤_;rw[burn_files.2.1];exact Nat.le_refl _)
theorem write_waits (s:ByteArray) (k:Int) (t:ByteArray):(D.write s k t).2.waits.length≤D.waits.length+1:=by
 unfold DiskS.write;split;exact Nat.le_succ _
 split;exact Nat.le_succ _
 split;exact Nat.le_succ _
 split;exact Nat.le_succ _
 refine doing_waits (by omega) ?_
 split
 ·rw[burn_files.2.1];omega
 ·show (D.burn.waits++_).length≤_
  rw[burn_files.2.1];simp
theorem lasts_waits (l:List ByteArray):∀D:DiskS,(l.foldl DiskS.last D).waits.length≤D.waits.length:=by
 induction l with
 | nil=>exact fun _=>Nat.le_refl _
 | cons n l ih=>exact fun D=>Nat.le_trans (ih _) (last_waits n)
theorem sync_waits (l:List ByteArray):(D.sync l).2.waits.length≤D.waits.length:=by
 unfold DiskS.sync;split;exact Nat.le_refl _
 exact doing_waits (Nat.le_refl _) (by have:=lasts_waits l D.burn;rw[burn_files.2.1]at this;exact this)
theorem cut_waits (s:ByteArray) (k:Int):(D.cut s k).2.waits.length≤D.waits.length:=by
 unfold DiskS.cut;split;exact Nat.le_refl _
 split;exact Nat.le_refl _
 split;exact Nat.le_refl _
 refine doing_waits (Nat.le_refl _) (Nat.le_trans (last_waits s) ?_)
 show D.burn.waits.length≤_
 rw[burn_files.2.1];exact Nat.le_refl _
theorem drops_waits (l:List ByteArray):∀D:DiskS,(l.foldl DiskS.drop D).waits.length≤D.waits.length:=by
 induction l with
 | nil=>exact fun _=>Nat.le_refl _
 | cons n l ih=>exact fun D=>Nat.le_trans (ih _) (drop_waits n)
theorem delete_waits (l:List ByteArray):(D.delete l).2.waits.length≤D.waits.length:=by
 unfold DiskS.delete;split;exact Nat.le_refl _
 exact doing_waits (Nat.le_refl _) (by have:=drops_waits l D.burn;rw[burn_files.2.1]at this;exact this)
theorem Create_ok (s:ByteArray) (w:World) (h:DiskOk w p D F n):Calls Tryz.prog 138 #[ptrTo p,.string s] w
  fun e w'=>∃b,w.heap.size≤b∧OkDone (D.create s b) p F n w e w' :=
 (Create_any w s h.lies h.good.left).mono fun _ _ ⟨b,F',hb,he,hd,hs⟩ =>
  ⟨b,hb,he,F',⟨hd,h.good.create h.form s b (fun f hf e=>by
   have:F f.blk:=by obtain⟨mb,wv,h1,rfl⟩:=h.lies;exact .inr (.inr (.inr (List.mem_map.2 ⟨f,hf,rfl⟩)))
   have:=h.foot_lt _ this
   omega),Nat.le_trans (create_waits s b) h.waits⟩,hs⟩
theorem Write_ok (s t:ByteArray) (k:Int) (w:World) (h:DiskOk w p D F n) (hn:n≤1000000) (ht:t.size≤1000000000):Calls Tryz.prog 89 #[ptrTo p,.string s,.int .i64 k,.string t] w (OkDone (D.write s k t) p F (n+1) w) :=
 (Write_any s t k w h.lies h.good.left (Nat.le_trans h.waits hn) (by have:=h.good.sizeN;omega) ht h.good.cap (fun f hf=>by have:=(h.good.file hf).1;omega)).mono fun _ _ ⟨he,F',hd,hs⟩ =>
  ⟨he,F',⟨hd,h.good.write h.form _ _ _,Nat.le_trans (write_waits _ _ _) (Nat.succ_le_succ h.waits)⟩,hs⟩
theorem Sync_ok (v:Value) (l:List ByteArray) (w:World) (h:DiskOk w p D F n) (hn:n≤1000000) (hv:StrsAt w v l) (hap:Apart v F) (hl:l.length≤4294967296):Calls Tryz.prog 104 #[ptrTo p,v] w (OkDone (D.sync l) p F n w) :=
 (Sync_any v l w h.lies hv hap hl h.good.left (Nat.le_trans h.waits hn)).mono fun _ _ ⟨he,F',hd,hs⟩=>⟨he,F',⟨hd,h.good.sync h.form _,Nat.le_trans (sync_waits _) h.waits⟩,hs⟩
theorem Cut_ok (s:ByteArray) (k:Int) (w:World) (h:DiskOk w p D F n) (hn:n≤1000000):Calls Tryz.prog 103 #[ptrTo p,.string s,.int .i64 k] w (OkDone (D.cut s k) p F n w) :=
 (Cut_any s k w h.lies h.good.left (Nat.le_trans h.waits hn)).mono fun _ _ ⟨he,F',hd,hs⟩=>⟨he,F',⟨hd,h.good.cut h.form _ _,Nat.le_trans (cut_waits _ _) h.waits⟩,hs⟩
theorem Delete_ok (v:Value) (l:List ByteArray) (w:World) (h:DiskOk w p D F n) (hn:n≤1000000) (hv:StrsAt w v l) (hap:Apart v F) (hl:l.length≤4294967296):Calls Tryz.prog 37 #[ptrTo p,v] w (OkDone (D.delete l) p F n w) :=
 (Delete_any v l w h.lies hv hap hl h.good.left (Nat.le_trans h.waits hn)).mono fun _ _ ⟨he,F',hd,hs⟩=>⟨he,F',⟨hd,h.good.delete _,Nat.le_trans (delete_waits _) h.waits⟩,hs⟩
theorem New_ok (w:World) (c:Int):Calls Tryz.prog 7 #[.int .i64 c] w fun e w'=>∃p F,e=.returned (ptrTo p)∧DiskOk w' p (new c) F 0∧Calm w w'∧∀b,F b→w.heap.size≤b :=
 (New_any w c).mono fun _ _ ⟨p,F,he,hd,hc,hF⟩=>⟨p,F,he,⟨hd,new_good c,Nat.le_refl _⟩,hc,hF⟩
def DiskS.read (D:DiskS) (s:ByteArray) (k m:Int):ByteArray×Int :=
 if (D.all s).2≠0 then (⟨#[]⟩,(D.all s).2) else if k<0∨m<0∨(D.all s).1.size<k∨(D.all s).1.size-k<m then (⟨#[]⟩,2) else ((D.all s).1.extract k.toNat (k+m).toNat,0)
theorem all_le (h:Good D) (s:ByteArray):(D.all s).1.size≤16777216:=by
 unfold DiskS.all
 split;exact Nat.zero_le _
 split
 ·exact Nat.zero_le _
 ·rename_i f hf;exact(h.file (find_some hf).1).1
set_option maxHeartbeats 1000000 in
theorem Read_ok (s:ByteArray) (k m:Int) (w:World) (h:DiskOk w p D F n):Calls Tryz.prog 117 #[ptrTo p,.string s,.int .i64 k,.int .i64 m] w
  fun e w'=>e=.returned (.tuple #[.string (D.read s k m).1,.int .i64 (D.read s k m).2])∧Calm w w':=by
 have H:=box (All_any w s h.lies)
 have hle:=all_le h.good s
 obtain⟨⟨x,y⟩,hxy⟩:∃r,D.all s=r:=⟨_,rfl⟩
 have hr:=box (show D.read s k m=if y≠0 then (⟨#[]⟩,y) else if k<0∨m<0∨(x.size:Int)<k∨x.size-k<m then (⟨#[]⟩,2) else (x.extract k.toNat (k+m).toNat,0) by unfold DiskS.read;rw[hxy])
 rw[hxy]at H hle
 clear h hxy
 simp only at hle H
 by_cases hy:y=0
 ·subst hy
  by_cases hb:k<0∨m<0∨(x.size:Int)<k∨x.size-k<m
  ·have hr:=box (show D.read s k m=(⟨#[]⟩,2) by rw[hr.out,if_neg (by decide),if_pos hb])
   rw[hr.out]
   have hb':k<0∨(0≤k∧m<0)∨(0≤k∧0≤m∧(x.size:Int)<k)∨(0≤k∧0≤m∧k≤x.size∧x.size-k<m):=by omega
   clear hb
   rcases hb' with h1|⟨h0,h1⟩|⟨h0,h1,h2⟩|⟨h0,h1,h2,h3⟩
   all_goals
    go_enter Tryz.func117,Tryz.ntmps117
    go_wp2_with fail
    refine H.out.mono ?_
    rintro e w' ⟨rfl,hc⟩
    have hc:=box hc
    go_wp2_with fail
    go_ret2
    exact⟨rfl,hc.out⟩
  ·have hr:=box (show D.read s k m=(x.extract k.toNat (k+m).toNat,0) by rw[hr.out,if_neg (by decide),if_neg hb])
   rw[hr.out]
   obtain⟨i,rfl⟩:∃i:Nat,k=i:=⟨k.toNat,by omega⟩
   obtain⟨j,rfl⟩:∃j:Nat,m=j:=⟨m.toNat,by omega⟩
   have b1:decide ((x.size:Int)<i)=false:=decide_eq_false (by omega)
   have b2:decide ((x.size:Int)-i<j)=false:=decide_eq_false (by omega)
   have b3:decide (x.size<i)=false:=decide_eq_false (by omega)
   have h4:i+j≤x.size:=by omega
   have hsl:∀W,(Instr.slice 9 (.string x) (some (.int .i64 (i:Int))) (some (.int .i64 ((i:Int)+j))) none).run Tryz.prog W=.ok (.string (x.extract (i:Int).toNat ((i:Int)+j).toNat)) W:=fun W=>run_slice_string _ _ _ _ _ _ _ Tryz.underlying9 (by omega) (by omega) (by omega)
   have hb0:decide ((i:Int)<0)=false:=decide_eq_false (by omega)
   have hb9:decide ((j:Int)<0)=false:=decide_eq_false (by omega)
   have q1:IntKind.i64.wrap ((x.size:Int)-i)=x.size-i:=IntWalk.i64_in _ (by omega)
   have q2:IntKind.i64.wrap ((i:Int)+j)=i+j:=IntWalk.i64_in _ (by omega)
   clear hb
   go_enter Tryz.func117,Tryz.ntmps117
   go_wp2_with fail
   refine H.out.mono ?_
   rintro e w' ⟨rfl,hc⟩
   have hc:=box hc
   go_wp2_with fail
   go_ret2
   exact⟨rfl,hc.out⟩
 ·have hr:=box (show D.read s k m=(⟨#[]⟩,y) by rw[hr.out,if_pos hy])
  rw[hr.out]
  have hy':(y==0)=false:=by rw[beq_eq_false_iff_ne];exact hy
  clear hy
  go_enter Tryz.func117,Tryz.ntmps117
  go_wp2_with fail
  refine H.out.mono ?_
  rintro e w' ⟨rfl,hc⟩
  have hc:=box hc
  go_wp2_with fail
  go_ret2
  exact⟨rfl,hc.out⟩
end
end Go.Proofs.YtiahjipoofeliaaGreatDoor.dk

namespace Go.Proofs.YtiahjipoofeliaaGreatDoor.dk
open Go.ChangeShapes Go.WideShapes Go.ChangeAt Go.RowKit
variable {D:DiskS}
structure Alive (D:DiskS):Prop where
 left:D.left = -1
 down:D.down=false
theorem Alive.burns (h:Alive D):D.burns=false:=by unfold DiskS.burns;rw[h.left];rfl
theorem Alive.burn (h:Alive D):D.burn=D:=by unfold DiskS.burn;rw[h.left];rfl
theorem Alive.doing (h:Alive D) (f:DiskS→DiskS):D.doing f=(0,f D):=by unfold DiskS.doing;rw[h.burns,h.burn];rfl
def DiskS.bytes (D:DiskS) (n:ByteArray):Option ByteArray:=(D.find n).map (·.now)
theorem bytes_some {n:ByteArray} {s:ByteArray} (h:D.bytes n=some s):∃f,D.find n=some f∧f.now=s:=by
 unfold DiskS.bytes at h
 cases hf:D.find n with
 | none=>rw[hf]at h;cases h
 | some f=>rw[hf]at h;exact⟨f,rfl,by simpa using h⟩
theorem bytes_has (n:ByteArray):D.has n=(D.bytes n).isSome:=by unfold DiskS.has DiskS.bytes;cases D.find n<;>rfl
theorem new_alive (c:Int):Alive (new c):=⟨rfl,rfl⟩
theorem all_bytes (h:Alive D) {n s:ByteArray} (hb:D.bytes n=some s):D.all n=(s,0):=by
 obtain⟨f,h1,h2⟩:=bytes_some hb
 unfold DiskS.all;rw[h.down,h1];simp [h2]
theorem read_bytes (h:Alive D) {n s:ByteArray} (hb:D.bytes n=some s) (k m:Nat) (hk:k+m≤s.size):D.read n k m=(s.extract k (k+m),0):=by
 unfold DiskS.read
 rw[all_bytes h hb]
 simp only[ne_eq,not_true,if_false]
 rw[if_neg (by omega)]
 simp only[Int.toNat_natCast,show ((k:Int)+m).toNat=k+m by omega]
structure But (D E:DiskS) (n:ByteArray) (s:ByteArray):Prop where
 alive:Alive E
 cap:E.cap=D.cap
 this:E.bytes n=some s
 others:∀m,m≠n→E.bytes m=D.bytes m
theorem find_turn_same (hF:Form D) {n:ByteArray} {f:FileS} (hf:D.find n=some f) (g:FileS→FileS) (hg:∀x,(g x).name=x.name):(D.turn n g).find n=some (g f):=by
 obtain⟨L1,L2,e1,e2,e3⟩:=turn_split hF hf g
 have hn:=(find_some hf).2
 unfold DiskS.find
 rw[e2,List.find?_append,List.find?_cons]
 have:L1.find? (fun f=>decide (f.name=n))=none:=by
  rw[List.find?_eq_none];intro x hx;simpa using (e3 x (List.mem_append_left _ hx)).1
 simp [this,hg,hn]
theorem find_turn_other {a b:ByteArray} (h:a≠b) (g:FileS→FileS) (hg:∀x,(g x).name=x.name):(D.turn a g).find b=D.find b:=by
 unfold DiskS.find DiskS.turn
 simp only
 generalize D.files=l
 induction l with
 | nil=>rfl
 | cons x l ih =>
  simp only[List.map_cons,List.find?_cons]
  by_cases hx:x.name=a
  ·have hxb:¬x.name=b:=fun e=>h (hx.symm.trans e)
   simp only[hx,if_true,hg]
   rw[ih]
   simp [h]
  ·simp only[if_neg hx]
   rw[ih]
theorem laid_zero (s:ByteArray) (k:Nat) (o:ByteArray) (ho:o.size=0):laid s k o=s:=by
 unfold laid laidL
 rw[if_pos (List.eq_nil_of_length_eq_zero (by simpa using ho))]
theorem write_but (h:Alive D) (hF:Form D) {n s:ByteArray} (hb:D.bytes n=some s) (k:Nat) (t:ByteArray) (hk:k≤s.size) (hroom:((k+t.size-s.size:Nat):Int)≤D.cap-D.size) :
  ∃E,D.write n k t=(0,E)∧But D E n (laid s k t)∧E.size=D.size+(k+t.size-s.size):=by
 obtain⟨f,h1,h2⟩:=bytes_some hb
 subst h2
 have hw:D.write n k t=D.doing fun D=>if t.size=0 then D else { D.turn n (fun f=>{ f with now:=laid f.now k t }) with waits:=D.waits++[⟨f.blk,k,t⟩] }:=by
  unfold DiskS.write
  rw[h.down,h1]
  simp only[Int.toNat_natCast]
  rw[if_neg (by decide),if_neg (by omega),if_neg (by omega)]
 rw[hw,h.doing]
 by_cases h0:t.size=0
 ·rw[if_pos h0]
  refine⟨D,rfl,⟨h,rfl,by rw[laid_zero _ _ _ h0];exact hb,fun _ _=>rfl⟩,by omega⟩
 ·rw[if_neg h0]
  refine⟨_,rfl,⟨⟨h.left,h.down⟩,rfl,?_,fun m hm=>?_⟩,?_⟩
  ·show ((D.turn n _).find n).map _=_
   rw[find_turn_same hF h1 (fun f=>{ f with now:=laid f.now k t }) (fun _=>rfl)];rfl
  ·show ((D.turn n _).find m).map _=_
   rw[find_turn_other (Ne.symm hm) (fun f=>{ f with now:=laid f.now k t }) (fun _=>rfl)];rfl
  ·obtain⟨L1,L2,e1,e2,_⟩:=turn_split hF h1 (fun f=>{ f with now:=laid f.now k t })
   have hl:=laid_size f.now k t
   have hg:=laid_le f.now k t h0
   show total (D.turn n _).files=total D.files+_
   rw[e2,e1,total_split,total_split]
   simp only
   omega
theorem bytes_end (s t:ByteArray):(laid s s.size t).data.toList=s.data.toList++t.data.toList:=by
 unfold laid laidL
 by_cases h0:t.data.toList=[]
 ·rw[if_pos h0];simp [h0]
 ·rw[if_neg h0]
  unfold pad
  simp
end Go.Proofs.YtiahjipoofeliaaGreatDoor.dk
