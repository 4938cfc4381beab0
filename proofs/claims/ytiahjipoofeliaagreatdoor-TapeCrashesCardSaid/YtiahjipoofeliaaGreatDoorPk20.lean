/- Lemmas for this claim. -/
import Derived.Laws.ResultCell
import Derived.Laws.Rows
import Derived.Test.YtiahjipoofeliaaGreatDoorPk19
set_option maxRecDepth 100000
namespace Go.Proofs.YtiahjipoofeliaaGreatDoor.rc
open Go.ChangeShapes Go.WideShapes Go.ChangeAt Go.RowKit Go.Shelf
open nm vs
def Right3 (m:MsgS):Prop:=numsB m=true∧Carries m∧(m.kind=1→m.due=0∧m.ref=0)
instance (m:MsgS):Decidable (Right3 m):=by unfold Right3;exact inferInstance
set_option maxHeartbeats 4000000 in
theorem Right3_any (m:MsgS) (kv:Value) (w:World) (hk:StrsAt w kv m.keys) (hs:∀s∈m.keys,s.size≤maxLen) (h3:m.kind=1∨m.kind=2∨m.kind=3) :
  Calls Tryz.prog 156 #[.agg (msgA m kv)] w fun e w'=>e=.returned (.bool (decide (Right3 m)))∧Calm w w':=by
 have hcar:=box (fun W (hW:Calm w W)=>carries_any m kv W (hk.calm hW) hs)
 clear hk hs
 obtain⟨kd,q,du,rt,rf,bn,tp,tg,bd,ks⟩:=m
 simp only at h3
 have Hn:=box (heap_new w (.cells (msgA ⟨kd,q,du,rt,rf,bn,tp,tg,bd,ks⟩ kv) 63))
 have H0:=box ((Calm.refl w).alloc (.cells (msgA ⟨kd,q,du,rt,rf,bn,tp,tg,bd,ks⟩ kv) 63))
 have hnum:=box (nums_any (w.heap.size+1) du rf bn ((w.alloc (.cells (msgA ⟨kd,q,du,rt,rf,bn,tp,tg,bd,ks⟩ kv) 63)).alloc (.cells #[.int .i64 du,.int .i64 rf,.int .i64 bn] 3)) (by
  have:=heap_new (w.alloc (.cells (msgA ⟨kd,q,du,rt,rf,bn,tp,tg,bd,ks⟩ kv) 63)) (.cells #[.int .i64 du,.int .i64 rf,.int .i64 bn] 3)
  rwa[World.size_alloc]at this))
 have H1:=box (H0.out.trans ((Calm.refl _).alloc (.cells #[.int .i64 du,.int .i64 rf,.int .i64 bn] 3)))
 have J1:=box (heap_calm ((Calm.refl _).alloc (.cells #[.int .i64 du,.int .i64 rf,.int .i64 bn] 3)) Hn.out)
 go_enter Tryz.func156,Tryz.ntmps156
 go_wp2_with fail
 refine hnum.out.mono ?_
 rintro e w1 ⟨rfl,hc1⟩
 have H2:=box (H1.out.trans hc1)
 have J2:=box (heap_calm hc1 J1.out)
 clear hc1
 have c0:=cell_of J2.out 0
 have c1:=cell_of J2.out 1
 have c2:=cell_of J2.out 2
 have c3:=cell_of J2.out 3
 have c4:=cell_of J2.out 4
 have c5:=cell_of J2.out 5
 have c6:=cell_of J2.out 6
 have c7:=cell_of J2.out 7
 have c8:=cell_of J2.out 8
 have c9:=cell_of J2.out 9
 have hlt:=heap_lt J2.out
 cases hnb:(numB du && numB rf && numB bn)
 ·go_wp2_with fail
  go_ret
  exact⟨ret_bool (decide_eq_false (fun h=>by have:=h.1;unfold numsB at this;simp only at this;rw[hnb]at this;cases this)).symm,H2.out⟩
 ·rcases h3 with rfl|rfl|rfl
  ·by_cases hcr:Carries ⟨1,q,du,rt,rf,bn,tp,tg,bd,ks⟩
   ·go_wp2_with fail
    refine(hcar.out _ H2.out).mono ?_
    rw[decide_eq_true hcr]
    rintro e w3 ⟨rfl,hc3⟩
    have H3:=box (H2.out.trans hc3)
    have J3:=box (heap_calm hc3 J2.out)
    clear hc3 c0 c1 c2 c3 c4 c5 c6 c7 c8 c9 hlt
    have d2:=cell_of J3.out 2
    have d4:=cell_of J3.out 4
    have hlt:=heap_lt J3.out
    have Hcr:=box hcr
    clear hcr
    by_cases hd:du=0
    ·subst hd
     by_cases hf:rf=0
     ·subst hf
      go_wp2_with fail
      go_ret
      exact⟨ret_bool (decide_eq_true (show Right3 ⟨1,q,0,rt,0,bn,tp,tg,bd,ks⟩ from ⟨hnb,Hcr.out,fun _=>⟨rfl,rfl⟩⟩)).symm,H3.out⟩
     ·have hf':(rf==0)=false:=beq_eq_false_iff_ne.2 hf
      go_wp2_with fail
      go_ret
      exact⟨ret_bool (decide_eq_false (fun h=>hf (h.2.2 rfl).2)).symm,H3.out⟩
    ·have hd':(du==0)=false:=beq_eq_false_iff_ne.2 hd
     go_wp2_with fail
     go_ret
     exact⟨ret_bool (decide_eq_false (fun h=>hd (h.2.2 rfl).1)).symm,H3.out⟩
   ·go_wp2_with fail
    refine(hcar.out _ H2.out).mono ?_
    rw[decide_eq_false hcr]
    rintro e w3 ⟨rfl,hc3⟩
    have H3:=box (H2.out.trans hc3)
    clear hc3
    go_wp2_with fail
    go_ret
    exact⟨ret_bool (decide_eq_false (fun h=>hcr h.2.1)).symm,H3.out⟩
  ·have hiff:decide (Carries ⟨2,q,du,rt,rf,bn,tp,tg,bd,ks⟩)=decide (Right3 ⟨2,q,du,rt,rf,bn,tp,tg,bd,ks⟩):=decide_eq_decide.2 ⟨fun h=>⟨hnb,h,fun e=>by cases e⟩,fun h=>h.2.1⟩
   go_wp2_with fail
   refine(hcar.out _ H2.out).mono ?_
   rw[hiff]
   rintro e w3 ⟨rfl,hc3⟩
   have H3:=box (H2.out.trans hc3)
   clear hc3
   go_wp2_with fail
   go_ret
   exact⟨rfl,H3.out⟩
  ·have hiff:decide (Carries ⟨3,q,du,rt,rf,bn,tp,tg,bd,ks⟩)=decide (Right3 ⟨3,q,du,rt,rf,bn,tp,tg,bd,ks⟩):=decide_eq_decide.2 ⟨fun h=>⟨hnb,h,fun e=>by cases e⟩,fun h=>h.2.1⟩
   go_wp2_with fail
   refine(hcar.out _ H2.out).mono ?_
   rw[hiff]
   rintro e w3 ⟨rfl,hc3⟩
   have H3:=box (H2.out.trans hc3)
   clear hc3
   go_wp2_with fail
   go_ret
   exact⟨rfl,H3.out⟩
theorem addr_add (b j:Nat):(⟨b,0,none⟩:Addr).add j=⟨b,j,none⟩:=by unfold Addr.add;split<;>simp_all
theorem strs_own {w:World} {base:Nat} {v:Value} {l:List ByteArray} (h:w.ownsRow base 9 1 v l.length (l.map Value.string)):StrsAt w v l:=by
 rcases h.2 with ⟨rfl,hn⟩|⟨g,cap,cur,rfl,hb,hg,hnc,hcm,hcs,htake⟩
 ·exact .inl ⟨List.eq_nil_of_length_eq_zero hn,none,0,rfl⟩
 ·refine .inr ⟨g,0,cap,rfl,fun k hk=>?_⟩
  have:=h.cells (g:=g) rfl k (.string l[k]) (by simp [hk])
  rw[addr_add]at this
  rw[Nat.zero_add,List.getD_eq_getElem?_getD,List.getElem?_eq_getElem hk]
  exact this
theorem own_from {w:World} {base n size:Nat} {v:Value} {e:TypeId} {xs:List Value} (h:w.ownsRow base e size v n xs):∀a m c,v=.slice (some a) m c→0<m→base≤a.block:=fun a m c hv hm=>by
 rcases h.2 with ⟨rfl,hn⟩|⟨g,cap,cur,rfl,hb,_⟩
 ·cases hv
 ·cases hv;exact hb
theorem calm_setCell {a w:World} (h:Calm a w) {p:Addr} (hp:a.heap.size≤p.block) (u:Value):Calm a (w.setCell p u) :=
 ((Keeps.of_calm (F:=fun b=>a.heap.size≤b) h).setCell (.inr hp) u).below (Nat.le_refl _) (fun _ h=>h)
theorem list10 (l:List Value) (h:l.length=10):∃a0 a1 a2 a3 a4 a5 a6 a7 a8 a9,l=[a0,a1,a2,a3,a4,a5,a6,a7,a8,a9]:=by
 match l,h with
 | [a0,a1,a2,a3,a4,a5,a6,a7,a8,a9],_=>exact⟨_,_,_,_,_,_,_,_,_,_,rfl⟩
theorem put_msg {w:World} {b:Nat} {c:Array Value} {T:TypeId} (h:w.heap[b]? = some (.cells c T (0,0))) (hc:c.size=10) (u0 u1 u2 u3 u4 u5 u6 u7 u8 u9:Value) :
  ((((((((((w.setCell ⟨b,0,none⟩ u0).setCell ⟨b,1,none⟩ u1).setCell ⟨b,2,none⟩ u2).setCell ⟨b,3,none⟩ u3).setCell ⟨b,4,none⟩ u4).setCell ⟨b,5,none⟩ u5).setCell ⟨b,6,none⟩ u6).setCell ⟨b,7,none⟩ u7).setCell ⟨b,8,none⟩ u8).setCell ⟨b,9,none⟩ u9).heap[b]? = some (.cells #[u0,u1,u2,u3,u4,u5,u6,u7,u8,u9] T (0,0)):=by
 have h10:=heap_set (heap_set (heap_set (heap_set (heap_set (heap_set (heap_set (heap_set (heap_set (heap_set (h) 0 u0) 1 u1) 2 u2) 3 u3) 4 u4) 5 u5) 6 u6) 7 u7) 8 u8) 9 u9
 obtain⟨l⟩:=c
 obtain⟨a0,a1,a2,a3,a4,a5,a6,a7,a8,a9,rfl⟩:=list10 l hc
 simp only[List.setIfInBounds_toArray,List.set_cons_zero,List.set_cons_succ]at h10
 exact h10
theorem keeps_put_msg {F:Nat→Prop} {a w:World} (h:Keeps F a w) {b:Nat} (hb:F b) (u0 u1 u2 u3 u4 u5 u6 u7 u8 u9:Value):Keeps F a ((((((((((w.setCell ⟨b,0,none⟩ u0).setCell ⟨b,1,none⟩ u1).setCell ⟨b,2,none⟩ u2).setCell ⟨b,3,none⟩ u3).setCell ⟨b,4,none⟩ u4).setCell ⟨b,5,none⟩ u5).setCell ⟨b,6,none⟩ u6).setCell ⟨b,7,none⟩ u7).setCell ⟨b,8,none⟩ u8).setCell ⟨b,9,none⟩ u9) :=
 Keeps.setCell (Keeps.setCell (Keeps.setCell (Keeps.setCell (Keeps.setCell (Keeps.setCell (Keeps.setCell (Keeps.setCell (Keeps.setCell (Keeps.setCell (h) (p:=⟨b,0,none⟩) (.inl hb) u0) (p:=⟨b,1,none⟩) (.inl hb) u1) (p:=⟨b,2,none⟩) (.inl hb) u2) (p:=⟨b,3,none⟩) (.inl hb) u3) (p:=⟨b,4,none⟩) (.inl hb) u4) (p:=⟨b,5,none⟩) (.inl hb) u5) (p:=⟨b,6,none⟩) (.inl hb) u6) (p:=⟨b,7,none⟩) (.inl hb) u7) (p:=⟨b,8,none⟩) (.inl hb) u8) (p:=⟨b,9,none⟩) (.inl hb) u9
theorem strs_keep {F:Nat→Prop} {w w':World} {v:Value} {l:List ByteArray} (h:StrsAt w v l) (k:Keeps F w w') (hF:∀a n c,v=.slice (some a) n c→0<n→¬F a.block):StrsAt w' v l:=by
 rcases h with h|⟨b,off,cap,rfl,hc⟩
 ·exact .inl h
 ·refine .inr ⟨b,off,cap,rfl,fun j hj=>?_⟩
  have h1:=hc j hj
  have hlt:=World.block_lt_of_cell? w ⟨b,off+j,none⟩ h1
  rw[World.cell?_of_block (w:=w) (a:=⟨b,off+j,none⟩) (k.block b hlt (hF _ _ _ rfl (by omega)))]
  exact h1
theorem calm_put_msg {a w:World} (h:Calm a w) {b:Nat} (hb:a.heap.size≤b) (u0 u1 u2 u3 u4 u5 u6 u7 u8 u9:Value):Calm a ((((((((((w.setCell ⟨b,0,none⟩ u0).setCell ⟨b,1,none⟩ u1).setCell ⟨b,2,none⟩ u2).setCell ⟨b,3,none⟩ u3).setCell ⟨b,4,none⟩ u4).setCell ⟨b,5,none⟩ u5).setCell ⟨b,6,none⟩ u6).setCell ⟨b,7,none⟩ u7).setCell ⟨b,8,none⟩ u8).setCell ⟨b,9,none⟩ u9) :=
 calm_setCell (calm_setCell (calm_setCell (calm_setCell (calm_setCell (calm_setCell (calm_setCell (calm_setCell (calm_setCell (calm_setCell (h) (p:=⟨b,0,none⟩) hb u0) (p:=⟨b,1,none⟩) hb u1) (p:=⟨b,2,none⟩) hb u2) (p:=⟨b,3,none⟩) hb u3) (p:=⟨b,4,none⟩) hb u4) (p:=⟨b,5,none⟩) hb u5) (p:=⟨b,6,none⟩) hb u6) (p:=⟨b,7,none⟩) hb u7) (p:=⟨b,8,none⟩) hb u8) (p:=⟨b,9,none⟩) hb u9
theorem msgSize:(Tryz.prog.info? 63).map (·.size)=some 10:=by kernel_rfl
theorem MsgS.eq_iff {a b:MsgS}:a=b↔a.kind=b.kind∧a.queue=b.queue∧a.due=b.due∧a.retry=b.retry∧a.ref=b.ref∧a.born=b.born∧a.topic=b.topic∧a.tag=b.tag∧a.body=b.body∧a.keys=b.keys:=by
 cases a;cases b;simp
instance:DecidableEq MsgS:=fun _ _=>decidable_of_iff _ MsgS.eq_iff.symm
theorem differ {a b:MsgS} {r:Bool} (hr:Box (decide (a=b)=r)) (h:a≠b):false=r:=by rw[←hr.out,eq_comm];exact decide_eq_false h
theorem Equal_any (v u:Value) (l m:List ByteArray) (w:World) (h:StrsAt w v l) (g:StrsAt w u m) (hl:l.length≤4294967296) (hm:m.length≤4294967296) :
  Calls Tryz.prog 233 #[v,u] w fun e w'=>e=.returned (.bool (decide (l=m)))∧Calm w w':=by
 by_cases hlen:l.length=m.length
 ·rcases h with ⟨rfl,a,cap,rfl⟩|⟨b,off,cap,rfl,hc⟩
  ·obtain⟨ua,ucap,rfl,_⟩:=g.uni
   refine(Tryz.slices_Equal_string_empty a ua cap m.length ucap w (by omega)).mono ?_
   rintro e w' ⟨rfl,rfl⟩
   have:m=[]:=List.eq_nil_of_length_eq_zero (by simpa using hlen.symm)
   exact⟨ret_bool (by subst this;rfl),Calm.refl _⟩
  ·rcases g with ⟨rfl,a2,cap2,rfl⟩|⟨b2,off2,cap2,rfl,hc2⟩
   ·have:l=[]:=List.eq_nil_of_length_eq_zero (by simpa using hlen)
    subst this
    refine(Tryz.slices_Equal_string_empty (some ⟨b,off,none⟩) a2 cap 0 cap2 w (by decide)).mono ?_
    rintro e w' ⟨rfl,rfl⟩
    exact⟨rfl,Calm.refl _⟩
   ·refine(Tryz.slices_Equal_string b off l.length cap b2 off2 m.length cap2 l m w (Nat.le_refl _) (Nat.le_refl _) (by omega) (by omega) hc hc2).mono ?_
    rintro e w' ⟨rfl,q,rfl⟩
    exact⟨ret_bool (by rw[List.take_length,List.take_length]),(Calm.refl _).drewN _⟩
 ·obtain⟨va,vcap,rfl,_⟩:=h.uni
  obtain⟨ua,ucap,rfl,_⟩:=g.uni
  refine(Tryz.slices_Equal_string_lens va ua l.length vcap m.length ucap w hlen).mono ?_
  rintro e w' ⟨rfl,rfl⟩
  exact⟨ret_bool (by rw[eq_comm];exact decide_eq_false (fun e=>hlen (by rw[e]))),Calm.refl _⟩
set_option maxHeartbeats 8000000 in
theorem rSame_any (a b:MsgS) (ka kb:Value) (w:World) (ha:StrsAt w ka a.keys) (hb:StrsAt w kb b.keys) (la:a.keys.length≤1000000) (lb:b.keys.length≤1000000) :
  Calls Tryz.prog 35 #[.agg (msgA a ka),.agg (msgA b kb)] w fun e w'=>e=.returned (.bool (decide (a=b)))∧Calm w w':=by
 obtain⟨r,hr⟩:∃r,decide (a=b)=r:=⟨_,rfl⟩
 rw[hr]
 have Hr:=box hr
 clear hr
 have He:=box (fun W (hW:Calm w W)=>Texts_any ka kb a.keys b.keys W (ha.calm hW) (hb.calm hW) (by omega) (by omega))
 clear ha hb la lb
 obtain⟨ak,aq,ad,ar,af,an,at_,ag,ab,aks⟩:=a
 obtain⟨bk,bq,bd,br,bf,bn,bt,bg,bb,bks⟩:=b
 go_enter Tryz.func35,Tryz.ntmps35
 go_wp2_with fail
 all_goals try (go_ret;exact⟨ret_bool (differ Hr (fun e=>by cases e;simp_all)),((Calm.refl w).alloc _).alloc _⟩)
 refine(He.out _ (((Calm.refl w).alloc _).alloc _)).mono ?_
 rintro e w1 ⟨rfl,hc⟩
 have Hc:=box ((((Calm.refl w).alloc _).alloc _).trans hc)
 clear hc
 have Hf:=box (show decide (aks=bks)=r by
  rw[←Hr.out]
  have e6:at_=bt:=ba_ext (by rw[←Lib.toList_data,←Lib.toList_data];assumption)
  have e7:ag=bg:=ba_ext (by rw[←Lib.toList_data,←Lib.toList_data];assumption)
  have e8:ab=bb:=ba_ext (by rw[←Lib.toList_data,←Lib.toList_data];assumption)
  subst e6 e7 e8
  subst_vars
  exact decide_eq_decide.2 ⟨fun e=>by rw[e],fun e=>by cases e;rfl⟩)
 go_wp2_with fail
 go_ret
 exact⟨ret_bool Hf.out,Hc.out⟩
set_option maxHeartbeats 8000000 in
theorem Same_any (a b:MsgS) (ka kb:Value) (w:World) (ha:StrsAt w ka a.keys) (hb:StrsAt w kb b.keys) (la:a.keys.length≤1000000) (lb:b.keys.length≤1000000) :
  Calls Tryz.prog 191 #[.agg (msgA a ka),.agg (msgA b kb)] w fun e w'=>e=.returned (.bool (decide (a=b)))∧Calm w w':=by
 obtain⟨r,hr⟩:∃r,decide (a=b)=r:=⟨_,rfl⟩
 rw[hr]
 have Hr:=box hr
 clear hr
 have He:=box (fun W (hW:Calm w W)=>Equal_any ka kb a.keys b.keys W (ha.calm hW) (hb.calm hW) (by omega) (by omega))
 clear ha hb la lb
 obtain⟨ak,aq,ad,ar,af,an,at_,ag,ab,aks⟩:=a
 obtain⟨bk,bq,bd,br,bf,bn,bt,bg,bb,bks⟩:=b
 go_enter Tryz.func191,Tryz.ntmps191
 go_wp2_with fail
 all_goals try (go_ret;exact⟨ret_bool (differ Hr (fun e=>by cases e;simp_all)),((Calm.refl w).alloc _).alloc _⟩)
 refine(He.out _ (((Calm.refl w).alloc _).alloc _)).mono ?_
 rintro e w1 ⟨rfl,hc⟩
 have Hc:=box ((((Calm.refl w).alloc _).alloc _).trans hc)
 clear hc
 have Hf:=box (show decide (aks=bks)=r by
  rw[←Hr.out]
  have e6:at_=bt:=ba_ext (by rw[←Lib.toList_data,←Lib.toList_data];assumption)
  have e7:ag=bg:=ba_ext (by rw[←Lib.toList_data,←Lib.toList_data];assumption)
  have e8:ab=bb:=ba_ext (by rw[←Lib.toList_data,←Lib.toList_data];assumption)
  subst e6 e7 e8
  subst_vars
  exact decide_eq_decide.2 ⟨fun e=>by rw[e],fun e=>by cases e;rfl⟩)
 go_wp2_with fail
 go_ret
 exact⟨ret_bool Hf.out,Hc.out⟩
theorem not_true_of {p:Prop} [Decidable p] {r:Bool} (hr:Box (decide p=r)) (h:¬p):false=r:=by rw[←hr.out,eq_comm];exact decide_eq_false h
theorem true_of {p:Prop} [Decidable p] {r:Bool} (hr:Box (decide p=r)) (h:p):true=r:=by rw[←hr.out,eq_comm];exact decide_eq_true h
theorem rnum_any (x:Int) (w:World):Calls Tryz.prog 105 #[.int .i64 x] w fun e w'=>e=.returned (.bool (numB x))∧w=w':=by
  obtain⟨r,hr⟩:∃r,numB x=r:=⟨_,rfl⟩
  rw[hr]
  have Hr:=box hr
  clear hr
  go_enter Tryz.func105,Tryz.ntmps105
  go_wp2_with fail
  all_goals
    go_ret
    exact⟨ret_bool (by rw[←Hr.out,Bool.eq_iff_iff];simp [numB]<;>omega),rfl⟩
theorem nodup_snoc (l:List ByteArray) (k:Nat) (hk:k<l.length) (h:((l.take k).map (·.data.toList)).Nodup) (hn:∀j (hj:j<k),l[j]≠l[k]):((l.take (k+1)).map (·.data.toList)).Nodup:=by
  rw[List.take_succ_eq_append_getElem hk,List.map_append,List.nodup_append]
  refine⟨h,by simp,fun a ha b hb=>?_⟩
  simp only[List.map_cons,List.map_nil,List.mem_singleton]at hb
  obtain⟨x,hx,rfl⟩:=List.mem_map.1 ha
  obtain⟨j,hj,rfl⟩:=List.mem_iff_getElem.1 hx
  rw[List.getElem_take]at hx ⊢
  rw[List.length_take]at hj
  subst hb
  intro e
  exact hn j (by omega) (ba_ext e)
theorem unlike_no (l:List ByteArray) (k j:Nat) (hk:k<l.length) (hj:j<k) (h:l[j]=l[k]):¬unlikeB l=true:=by
  unfold unlikeB
  rw[decide_eq_true_eq]
  intro hn
  have h1:(l.map (·.data.toList))[j]'(by simp;omega)=(l.map (·.data.toList))[k]'(by simp;omega):=by simp [h]
  have:=(List.getElem_inj hn).1 h1
  omega
set_option maxHeartbeats 8000000 in
theorem rCarries_any (m : MsgS) (kv : Value) (w : World) (hk : StrsAt w kv m.keys) (hs : ∀ s ∈ m.keys, s.size ≤ maxLen) (hz : m.topic.size ≤ maxLen ∧ m.tag.size ≤ maxLen) :
    Calls Tryz.prog 106 #[.agg (msgA m kv)] w fun e w'=>e=.returned (.bool (decide (Carries m)))∧Calm w w':=by
  obtain⟨r,hr⟩:∃r,decide (Carries m)=r:=⟨_,rfl⟩
  rw[hr]
  have Hr:=box hr
  clear hr
  obtain⟨kd,q,du,rt,rf,bn,tp,tg,bd,ks⟩:=m
  simp only at hk hs hz
  obtain⟨hz1,hz2⟩:=hz
  obtain⟨a,cap,rfl,hcells⟩:=hk.uni
  have Hcells:=box hcells
  have Hs:=box hs
  obtain⟨W1,hW1⟩:∃W1,w.alloc (.cells (msgA ⟨kd,q,du,rt,rf,bn,tp,tg,bd,ks⟩ (.slice a ks.length cap)) 63)=W1:=⟨_,rfl⟩
  have Hn:=box (show W1.heap[w.heap.size]? = some (.cells (msgA ⟨kd,q,du,rt,rf,bn,tp,tg,bd,ks⟩ (.slice a ks.length cap)) 63 (0,0)) by rw[←hW1];exact heap_new w _)
  have H0:=box (show Calm w W1 by rw[←hW1];exact(Calm.refl w).alloc _)
  have htop:=box (rTopic_any tp W1 hz1)
  have htag:=box (rTag_any tg W1 hz2)
  clear hk hs hz1 hz2 hcells
  have c6:=cell_of Hn.out 6
  have hlt:=heap_lt Hn.out
  go_enter Tryz.func106,Tryz.ntmps106
  go_wp2_with fail
  clear hW1 c6 hlt
  refine htop.out.mono ?_
  cases htp:topicB tp
  · rintro e w1 ⟨rfl, rfl⟩
    go_wp2_with fail
    go_ret
    exact⟨ret_bool (not_true_of Hr (fun h=>by have:=h.1;simp only at this;rw[htp]at this;cases this)),H0.out⟩
  · rintro e w1 ⟨rfl, rfl⟩
    have c0:=cell_of Hn.out 0
    have c1:=cell_of Hn.out 1
    have c2:=cell_of Hn.out 2
    have c3:=cell_of Hn.out 3
    have c4:=cell_of Hn.out 4
    have c5:=cell_of Hn.out 5
    have c6:=cell_of Hn.out 6
    have c7:=cell_of Hn.out 7
    have c8:=cell_of Hn.out 8
    have c9:=cell_of Hn.out 9
    have hlt:=heap_lt Hn.out
    go_wp2_with fail
    refine htag.out.mono ?_
    cases htg:tagB tg
    · rintro e w1 ⟨rfl, rfl⟩
      go_wp2_with fail
      go_ret
      exact⟨ret_bool (not_true_of Hr (fun h=>by have:=h.2.2.2.2.2.1;simp only at this;rw[htg]at this;cases this)),H0.out⟩
    · rintro e w1 ⟨rfl, rfl⟩
      go_wp2_with fail
      all_goals first|(go_ret;exact⟨ret_bool (not_true_of Hr (fun h=>by obtain⟨_,h2,h3,h4,h5,_,h7,_,_,h10⟩:=h;simp only at h2 h3 h4 h5 h7 h10;omega)),H0.out⟩)|skip
      have Hfit:=box (show ks.all nm.keyB=true→unlikeB ks=true→Carries ⟨kd,q,du,rt,rf,bn,tp,tg,bd,ks⟩ from fun h8 h9=>⟨htp,by simp only;omega,by simp only;omega,by simp only;omega,by simp only;omega,htg,by simp only;omega,h8,h9,by simp only;omega⟩)
      clear c0 c1 c2 c3 c4 c5 c6 c7 c8 c9 hlt htop htag
      go_loopw [3] (fun i wr=>∃j:Nat,j≤ks.length∧i=.int .i64 j∧Calm W1 wr∧(ks.take j).all nm.keyB=true∧((ks.take j).map (·.data.toList)).Nodup) (fun i _=>ks.length-(intOf i).toNat)
      case atStart=>exact⟨0,Nat.zero_le _,rfl,Calm.refl _,rfl,List.nodup_nil⟩
      case round =>
        obtain⟨j,hj,rfl,hcal,hall,hnd⟩:=hrel
        have HC:=box hcal
        have HA:=box hall
        have HN:=box hnd
        clear hcal hall hnd
        have J:=box (heap_calm HC.out Hn.out)
        have c9:=cell_of J.out 9
        have hlt0:=heap_lt J.out
        obtain⟨wo,hwo⟩:∃wo:World,wo=wr:=⟨_,rfl⟩
        subst hwo
        by_cases hlt:j<ks.length
        · obtain ⟨kb, koff, rfl, hkb, hkc⟩ := Hcells.out j hlt
          have kc:=((H0.out.trans HC.out).cell (p:=⟨kb,koff+j,none⟩) hkb).trans hkc
          have klt:=Nat.lt_of_lt_of_le hkb (H0.out.trans HC.out).size
          rw[List.getD_eq_getElem?_getD,List.getElem?_eq_getElem hlt]at kc
          simp only[Option.getD_some]at kc
          have hsj:=box (Hs.out _ (List.getElem_mem hlt))
          have HAn:=box (show nm.keyB ks[j]=true→(ks.take (j+1)).all nm.keyB=true from fun h=>by
            rw[List.take_succ_eq_append_getElem hlt,List.all_append,HA.out];simp [h])
          have HAx:=box (show nm.keyB ks[j]=false→¬Carries ⟨kd,q,du,rt,rf,bn,tp,tg,bd,ks⟩ from fun h hc=>by
            have h8:=List.all_eq_true.1 hc.2.2.2.2.2.2.2.1 ks[j] (List.getElem_mem hlt)
            rw[h]at h8;cases h8)
          have HNn:=box (nodup_snoc ks j hlt HN.out)
          have HNx:=box (show ∀x (hx:x<j),ks[x]=ks[j]→¬Carries ⟨kd,q,du,rt,rf,bn,tp,tg,bd,ks⟩ from fun x hx h hc=>unlike_no ks j x hlt hx h hc.2.2.2.2.2.2.2.2.1)
          obtain⟨s,hs⟩:∃s,ks[j]=s:=⟨_,rfl⟩
          rw[hs]at kc hsj HAn HAx HNn HNx
          clear hs hkc
          have hkey:=box (rKey_any s wo hsj.out)
          go_wp2_with fail
          refine hkey.out.mono ?_
          cases hks:nm.keyB s
          · rintro e w1 ⟨rfl, rfl⟩
            go_wp2_with fail
            go_ret
            exact⟨ret_bool (not_true_of Hr (HAx.out hks)),H0.out.trans HC.out⟩
          · rintro e w1 ⟨rfl, rfl⟩
            have HAn:=box (HAn.out hks)
            go_wp2_with fail
            go_loopw [4] (fun i wr=>∃k:Nat,k≤j∧i=.int .i64 k∧Calm wo wr∧∀x (hx:x<k) (hx2:x<ks.length),ks[x]≠s) (fun i _=>j-(intOf i).toNat)
            case atStart=>exact⟨0,Nat.zero_le _,rfl,Calm.refl _,fun x hx=>absurd hx (Nat.not_lt_zero _)⟩
            case round =>
              obtain⟨k,hk,rfl,hcal,hne⟩:=hrel
              have HC2:=box hcal
              have HE:=box hne
              clear hcal hne c9 hlt0
              have J2:=box (heap_calm HC2.out J.out)
              have c9:=cell_of J2.out 9
              have hlt0:=heap_lt J2.out
              by_cases hkj:k<j
              · obtain ⟨kb2, koff2, he, hkb2, hkc2⟩ := Hcells.out k (by omega)
                cases he
                have kd1:=(HC2.out.cell (p:=⟨kb,koff+j,none⟩) klt).trans kc
                have kd2:=((H0.out.trans (HC.out.trans HC2.out)).cell (p:=⟨kb,koff+k,none⟩) hkb2).trans hkc2
                have klt2:=Nat.lt_of_lt_of_le klt HC2.out.size
                rw[List.getD_eq_getElem?_getD,List.getElem?_eq_getElem (by omega:k<ks.length)]at kd2
                simp only[Option.getD_some]at kd2
                have HNk:=box (HNx.out k hkj)
                have HEk:=box (show ks[k]'(by omega)≠s→∀x (hx:x<k+1) (hx2:x<ks.length),ks[x]≠s from fun h x hx hx2=>by
                  by_cases e:x=k
                  · subst e;exact h
                  · exact HE.out x (by omega) hx2)
                obtain⟨u,hu⟩:∃u,ks[k]'(by omega)=u:=⟨_,rfl⟩
                rw[hu]at kd2 HNk HEk
                clear hu hkc2 kc klt
                by_cases hus:u=s
                · subst hus
                  go_wp2_with (first|go_quiet (fail)|fail)
                  go_wp2_with fail
                  go_ret
                  exact⟨ret_bool (not_true_of Hr (HNk.out (by first|rfl|trivial))),(H0.out.trans (HC.out.trans HC2.out)).drewN _⟩
                · have hb1 : (u.toList == s.toList) = false := beq_eq_false_iff_ne.2 (fun e => hus (ba_ext (by rw [← Lib.toList_data, ← Lib.toList_data]; exact e)))
                  have HEk:=box (HEk.out hus)
                  clear hus
                  go_wp2_with (first|go_quiet (fail)|fail)
                  go_wp2_with fail
                  go_roundw
                  case rel=>exact⟨k+1,by omega,by go_num,HC2.out.drewN _,HEk.out⟩
                  case measure=>simp [intOf];omega
              · obtain rfl : k = j := by omega
                go_wp2_with fail
                go_roundw
                case rel=>exact⟨k+1,by omega,by go_num,HC.out.trans HC2.out,HAn.out,HNn.out (fun x hx=>HE.out x hx (by omega))⟩
                case measure=>simp [intOf];omega
        · obtain rfl : j = ks.length := by omega
          have hfin:=box (Hfit.out (by have:=HA.out;rwa[List.take_length]at this) (by have:=HN.out;rw[List.take_length]at this;exact decide_eq_true this))
          go_wp2_with fail
          go_ret
          exact⟨ret_bool (true_of Hr hfin.out),H0.out.trans HC.out⟩
def RightP (m:MsgS):Prop:=numsB m=true ∧
  ((m.kind=1∧Carries m∧m.due=0∧m.ref=0)∨((m.kind=2∨m.kind=3)∧Carries m) ∨
  ((m.queue=0∧m.retry=0∧m.due=0∧m.topic.size=0∧m.tag.size=0∧m.keys.length=0) ∧
    ((m.kind=4∧m.body.size=0)∨(m.kind=0∧m.ref=0∧m.born=0∧m.body.size≤1024∧m.body.data.toList.all (· == 0)=true))))
instance (m:MsgS):Decidable (RightP m):=by unfold RightP;exact inferInstance
theorem RightP.of3 {m:MsgS} (h3:m.kind=1∨m.kind=2∨m.kind=3):RightP m↔Right3 m:=by
  unfold RightP Right3
  constructor
  · rintro ⟨h1, ⟨hk, hc, hd⟩ | ⟨hk, hc⟩ | ⟨_, ⟨hk, _⟩ | ⟨hk, _⟩⟩⟩
    · exact⟨h1,hc,fun _=>hd⟩
    · exact⟨h1,hc,fun h=>by omega⟩
    · omega
    · omega
  · rintro ⟨h1, hc, hd⟩
    rcases h3 with h|h|h
    · exact⟨h1,.inl ⟨h,hc,hd h⟩⟩
    · exact⟨h1,.inr (.inl ⟨.inl h,hc⟩)⟩
    · exact⟨h1,.inr (.inl ⟨.inr h,hc⟩)⟩
theorem no_bytes {b:ByteArray} (h:b.size=0):b.toList=[]:=by rw[Lib.toList_data];exact List.eq_nil_of_length_eq_zero (by rw[size_toList];exact h)
theorem bytes_no {b:ByteArray} (h:b.toList=[]):b.size=0:=by rw[←size_toList,←Lib.toList_data,h];rfl
theorem ne_of_beq_false {a b:Int} (h:(a==b)=false):a≠b:=beq_eq_false_iff_ne.1 h
set_option maxHeartbeats 8000000 in
theorem rRight_any (m : MsgS) (kv : Value) (w : World) (hk : StrsAt w kv m.keys) (hs : ∀ s ∈ m.keys, s.size ≤ maxLen) (hz : m.topic.size ≤ maxLen ∧ m.tag.size ≤ maxLen ∧ m.body.size ≤ maxLen) :
    Calls Tryz.prog 60 #[.agg (msgA m kv)] w fun e w'=>e=.returned (.bool (decide (RightP m)))∧Calm w w':=by
  obtain⟨r,hr⟩:∃r,decide (RightP m)=r:=⟨_,rfl⟩
  rw[hr]
  have Hr:=box hr
  clear hr
  have hcar:=box (fun W (hW:Calm w W)=>rCarries_any m kv W (hk.calm hW) hs ⟨hz.1,hz.2.1⟩)
  obtain⟨kd,q,du,rt,rf,bn,tp,tg,bd,ks⟩:=m
  simp only at hk hs hz
  obtain⟨hz1,hz2,hz3⟩:=hz
  obtain⟨a,cap,rfl,_⟩:=hk.uni
  obtain⟨W1,hW1⟩:∃W1,w.alloc (.cells (msgA ⟨kd,q,du,rt,rf,bn,tp,tg,bd,ks⟩ (.slice a ks.length cap)) 63)=W1:=⟨_,rfl⟩
  have Hn:=box (show W1.heap[w.heap.size]? = some (.cells (msgA ⟨kd,q,du,rt,rf,bn,tp,tg,bd,ks⟩ (.slice a ks.length cap)) 63 (0,0)) by rw[←hW1];exact heap_new w _)
  have H0:=box (show Calm w W1 by rw[←hW1];exact(Calm.refl w).alloc _)
  clear hk hs
  unfold maxLen at hz1 hz2 hz3
  have c0:=cell_of Hn.out 0
  have c1:=cell_of Hn.out 1
  have c2:=cell_of Hn.out 2
  have c3:=cell_of Hn.out 3
  have c4:=cell_of Hn.out 4
  have c5:=cell_of Hn.out 5
  have c6:=cell_of Hn.out 6
  have c7:=cell_of Hn.out 7
  have c8:=cell_of Hn.out 8
  have c9:=cell_of Hn.out 9
  have hlt:=heap_lt Hn.out
  go_enter Tryz.func60,Tryz.ntmps60
  go_wp2_with fail
  clear hW1
  refine(rnum_any du _).mono ?_
  cases h1:numB du
  · rintro e w1 ⟨rfl, rfl⟩
    go_wp2_with fail
    go_ret
    exact⟨ret_bool (not_true_of Hr (fun h=>by have:=h.1;unfold numsB at this;simp only at this;rw[h1]at this;simp at this)),H0.out⟩
  rintro e w1 ⟨rfl,rfl⟩
  go_wp2_with fail
  refine(rnum_any rf _).mono ?_
  cases h2:numB rf
  · rintro e w1 ⟨rfl, rfl⟩
    go_wp2_with fail
    go_ret
    exact⟨ret_bool (not_true_of Hr (fun h=>by have:=h.1;unfold numsB at this;simp only at this;rw[h1,h2]at this;simp at this)),H0.out⟩
  rintro e w1 ⟨rfl,rfl⟩
  go_wp2_with fail
  refine(rnum_any bn _).mono ?_
  cases h3:numB bn
  · rintro e w1 ⟨rfl, rfl⟩
    go_wp2_with fail
    go_ret
    exact⟨ret_bool (not_true_of Hr (fun h=>by have:=h.1;unfold numsB at this;simp only at this;rw[h1,h2,h3]at this;simp at this)),H0.out⟩
  rintro e w1 ⟨rfl,rfl⟩
  have Hnums:=box (show numsB ⟨kd,q,du,rt,rf,bn,tp,tg,bd,ks⟩=true by unfold numsB;simp only;rw[h1,h2,h3];rfl)
  clear h1 h2 h3
  by_cases hk1:kd=1
  · subst hk1
    go_wp2_with fail
    refine(hcar.out _ H0.out).mono ?_
    by_cases hcr:Carries ⟨1,q,du,rt,rf,bn,tp,tg,bd,ks⟩
    · rw [decide_eq_true hcr]
      rintro e w3 ⟨rfl,hc3⟩
      have J3:=box (heap_calm hc3 Hn.out)
      clear c0 c1 c2 c3 c4 c5 c6 c7 c8 c9 hlt
      have d2:=cell_of J3.out 2
      have d4:=cell_of J3.out 4
      have hlt:=heap_lt J3.out
      have Hcr:=box hcr
      have C3:=box (H0.out.trans hc3)
      clear hcr hc3
      by_cases hd:du=0
      · subst hd
        by_cases hf:rf=0
        · subst hf
          go_wp2_with fail
          go_ret
          exact⟨ret_bool (true_of Hr ⟨Hnums.out,.inl ⟨rfl,Hcr.out,rfl,rfl⟩⟩),C3.out⟩
        · have hf' : (rf == 0) = false := beq_eq_false_iff_ne.2 hf
          go_wp2_with fail
          go_ret
          exact⟨ret_bool (not_true_of Hr (fun h=>by obtain⟨_,⟨_,_,_,h⟩|⟨h,_⟩|⟨_,⟨h,_⟩|⟨h,_⟩⟩⟩:=h<;>simp only at h<;>omega)),C3.out⟩
      · have hd' : (du == 0) = false := beq_eq_false_iff_ne.2 hd
        go_wp2_with fail
        go_ret
        exact⟨ret_bool (not_true_of Hr (fun h=>by obtain⟨_,⟨_,_,h,_⟩|⟨h,_⟩|⟨_,⟨h,_⟩|⟨h,_⟩⟩⟩:=h<;>simp only at h<;>omega)),C3.out⟩
    · rw [decide_eq_false hcr]
      rintro e w3 ⟨rfl,hc3⟩
      have C3:=box (H0.out.trans hc3)
      clear hc3
      go_wp2_with fail
      go_ret
      exact⟨ret_bool (not_true_of Hr (fun h=>by
        obtain⟨_,⟨_,h,_⟩|⟨_,h⟩|⟨_,⟨h,_⟩|⟨h,_⟩⟩⟩:=h
        · exact hcr h
        · exact hcr h
        · simp only at h;omega
        · simp only at h;omega)),C3.out⟩
  have e1:(kd==1)=false:=beq_eq_false_iff_ne.2 hk1
  by_cases hk2:kd=2
  · subst hk2
    have hiff:decide (Carries ⟨2,q,du,rt,rf,bn,tp,tg,bd,ks⟩)=r:=by
      rw[←Hr.out]
      exact decide_eq_decide.2 ⟨fun h=>⟨Hnums.out,.inr (.inl ⟨.inl rfl,h⟩)⟩,fun h=>by
        obtain⟨_,⟨_,h,_⟩|⟨_,h⟩|⟨_,⟨h,_⟩|⟨h,_⟩⟩⟩:=h
        · exact h
        · exact h
        · simp only at h;omega
        · simp only at h;omega⟩
    rw[hiff]at hcar
    clear hiff
    go_wp2_with fail
    refine(hcar.out _ H0.out).mono ?_
    rintro e w3 ⟨rfl,hc3⟩
    have C3:=box (H0.out.trans hc3)
    clear hc3
    go_wp2_with fail
    go_ret
    exact⟨rfl,C3.out⟩
  have e2:(kd==2)=false:=beq_eq_false_iff_ne.2 hk2
  by_cases hk3:kd=3
  · subst hk3
    have hiff:decide (Carries ⟨3,q,du,rt,rf,bn,tp,tg,bd,ks⟩)=r:=by
      rw[←Hr.out]
      exact decide_eq_decide.2 ⟨fun h=>⟨Hnums.out,.inr (.inl ⟨.inr rfl,h⟩)⟩,fun h=>by
        obtain⟨_,⟨_,h,_⟩|⟨_,h⟩|⟨_,⟨h,_⟩|⟨h,_⟩⟩⟩:=h
        · exact h
        · exact h
        · simp only at h;omega
        · simp only at h;omega⟩
    rw[hiff]at hcar
    clear hiff
    go_wp2_with fail
    refine(hcar.out _ H0.out).mono ?_
    rintro e w3 ⟨rfl,hc3⟩
    have C3:=box (H0.out.trans hc3)
    clear hc3
    go_wp2_with fail
    go_ret
    exact⟨rfl,C3.out⟩
  have e3:(kd==3)=false:=beq_eq_false_iff_ne.2 hk3
  have Hno:=box (show ∀h:RightP ⟨kd,q,du,rt,rf,bn,tp,tg,bd,ks⟩,(q=0∧rt=0∧du=0∧tp.size=0∧tg.size=0∧ks.length=0)∧((kd=4∧bd.size=0)∨(kd=0∧rf=0∧bn=0∧bd.size≤1024∧bd.data.toList.all (· == 0)=true)) from fun h=>by
    obtain⟨_,⟨h,_⟩|⟨h,_⟩|h⟩:=h
    · exact absurd h hk1
    · exact absurd h (by simp only;omega)
    · exact h)
  have Hyes:=box (show (q=0∧rt=0∧du=0∧tp.size=0∧tg.size=0∧ks.length=0)→((kd=4∧bd.size=0)∨(kd=0∧rf=0∧bn=0∧bd.size≤1024∧bd.data.toList.all (· == 0)=true))→RightP ⟨kd,q,du,rt,rf,bn,tp,tg,bd,ks⟩ from fun h1 h2=>⟨Hnums.out,.inr (.inr ⟨h1,h2⟩)⟩)
  clear hcar
  go_wp2_with fail
  all_goals first
    | (go_ret
       exact⟨ret_bool (not_true_of Hr (fun h=>by
        obtain⟨⟨a1,a2,a3,a4,a5,a6⟩,_⟩:=Hno.out h
        first
          | omega
          | exact absurd (no_bytes a4) (by assumption)
          | exact absurd (no_bytes a5) (by assumption)
          | (have hh : ((ks.length : Int) != 0) = true := by assumption
             rw[a6]at hh;cases hh))),H0.out⟩)
    | skip
  · have Hflat := box (show (q = 0 ∧ rt = 0 ∧ du = 0 ∧ tp.size = 0 ∧ tg.size = 0 ∧ ks.length = 0) from ⟨by assumption, by assumption, by assumption, bytes_no (by assumption), bytes_no (by assumption), by
      have hh:((ks.length:Int) != 0)=false:=by assumption
      rw[bne,Bool.not_eq_false']at hh
      have:=eq_of_beq hh
      omega⟩)
    have hk4:kd=4:=eq_of_beq (by assumption)
    go_ret
    refine⟨ret_bool ?_,H0.out⟩
    cases hb:bd.toList.isEmpty
    · exact not_true_of Hr (fun h => by
        obtain⟨_,⟨_,h5⟩|⟨h5,_⟩⟩:=Hno.out h
        · rw[no_bytes h5]at hb;cases hb
        · omega)
    · exact true_of Hr (Hyes.out Hflat.out (.inl ⟨hk4,bytes_no (List.isEmpty_iff.1 hb)⟩))
  · have Hflat := box (show (q = 0 ∧ rt = 0 ∧ du = 0 ∧ tp.size = 0 ∧ tg.size = 0 ∧ ks.length = 0) from ⟨by assumption, by assumption, by assumption, bytes_no (by assumption), bytes_no (by assumption), by
      have hh:((ks.length:Int) != 0)=false:=by assumption
      rw[bne,Bool.not_eq_false']at hh
      have:=eq_of_beq hh
      omega⟩)
    have Hk4:=box (show kd≠4 from ne_of_beq_false (by assumption))
    go_loopw [3] (fun i wr=>wr=W1∧∃k:Nat,k≤bd.size∧i=.int .i64 k∧(bd.data.toList.take k).all (· == 0)=true) (fun i _=>bd.size-(intOf i).toNat)
    case atStart=>exact⟨by first|rfl|trivial,0,Nat.zero_le _,rfl,rfl⟩
    case round =>
      obtain⟨rfl,k,hk,rfl,hall⟩:=hrel
      have Hall:=box hall
      clear hall
      by_cases hlt2:k<bd.size
      · have hsn := box (all_snoc bd k hlt2 (· == 0))
        have hx:=box (all_no bd k hlt2 (· == 0))
        by_cases hb:bd[k]=0
        · have hb1 : (bd[k].toNat : Int) = 0 := by rw [hb]; rfl
          have hn:=box (show (bd.data.toList.take (k+1)).all (· == 0)=true by rw[hsn.out,Hall.out,hb];rfl)
          go_wp2_with fail
          go_roundw
          case rel=>exact⟨by first|rfl|trivial,k+1,by omega,by go_num,hn.out⟩
          case measure=>simp [intOf];omega
        · have hb1 : ¬ (bd[k].toNat : Int) = 0 := fun h => hb (UInt8.toNat_inj.1 (by have : bd[k].toNat = 0 := by omega
                                                                                     rw[this];rfl))
          have hno:=box (hx.out (by simp [hb]))
          go_wp2_with fail
          go_ret
          exact⟨ret_bool (not_true_of Hr (fun h=>by
            obtain⟨_,⟨h5,_⟩|⟨_,_,_,_,h5⟩⟩:=Hno.out h
            · exact Hk4.out h5
            · rw[hno.out]at h5;cases h5)),H0.out⟩
      · obtain rfl : k = bd.size := by omega
        have hz:=box (show bd.data.toList.all (· == 0)=true by have:=Hall.out;rwa[all_take bd bd.size (Nat.le_refl _)]at this)
        have hend:r=(decide (kd=0) && decide (rf=0) && decide (bn=0) && decide ((bd.size:Int)≤1024)):=by
          rw[←Hr.out,Bool.eq_iff_iff]
          simp only[Bool.and_eq_true,decide_eq_true_eq]
          constructor
          · intro h
            obtain⟨_,⟨h5,_⟩|⟨h5,h6,h7,h8,_⟩⟩:=Hno.out h
            · exact absurd h5 Hk4.out
            · exact⟨⟨⟨h5,h6⟩,h7⟩,by omega⟩
          · rintro ⟨⟨⟨h5, h6⟩, h7⟩, h8⟩
            exact Hyes.out Hflat.out (.inr ⟨h5,h6,h7,by omega,hz.out⟩)
        have Hend:=box hend
        clear hend
        go_wp2_with fail
        all_goals
          go_ret
          exact⟨ret_bool (by rw[Hend.out];simp_all),H0.out⟩
end Go.Proofs.YtiahjipoofeliaaGreatDoor.rc

namespace Go.Proofs.YtiahjipoofeliaaGreatDoor.rc
open Go.RowKit
open nm vs
theorem plain_size {s:ByteArray} (h:plainB s=true):s.size≤16:=by
 unfold plainB plainL at h
 simp only[Bool.and_eq_true,decide_eq_true_eq,size_toList]at h
 exact h.1.2
theorem hit_size {s hd:ByteArray} (h:hitS s hd=true):s.size≤hd.size+8:=by
 unfold hitS groupB groupL at h
 simp only[Bool.and_eq_true,decide_eq_true_eq,size_toList]at h
 obtain⟨h1,_,h3⟩:=h
 unfold cutS Lib.trimPrefix at h3
 unfold hasS at h1
 rw[if_pos h1]at h3
 have:((⟨(s.data.toList.drop hd.data.toList.length).toArray⟩:ByteArray)).size=s.size-hd.size:=by show (_:List UInt8).toArray.size=_;simp
 rw[this]at h3
 omega
theorem topic_size {s:ByteArray} (h:topicB s=true):s.size≤16:=by
 unfold topicB ofOk at h
 simp only[Bool.or_eq_true]at h
 rcases h with (h|h)|h
 ·have:=hit_size h;have e:retryC.size=7:=rfl;omega
 ·have:=hit_size h;have e:deadC.size=6:=rfl;omega
 ·exact plain_size h
theorem tag_size {s:ByteArray} (h:tagB s=true):s.size≤16:=by
 unfold tagB at h
 simp only[Bool.or_eq_true,decide_eq_true_eq]at h
 rcases h with h|h
 ·omega
 ·exact plain_size h
theorem key_size {s:ByteArray} (h:nm.keyB s=true):s.size≤16:=by
 unfold nm.keyB keyL at h
 simp only[Bool.and_eq_true,decide_eq_true_eq,size_toList]at h
 exact h.1.2
theorem right_fits:∀m,RightP m→m.kind≠0→Fits m:=fun m h hk=>by
 obtain⟨hn,h⟩:=h
 unfold numsB at hn
 simp only[Bool.and_eq_true,numB_iff]at hn
 have car:∀(_:m.kind=1∨m.kind=2∨m.kind=3),Carries m→Fits m:=fun hk3 hc=>by
  obtain⟨a1,a2,a3,a4,a5,a6,a7,a8,a9,a10⟩:=hc
  exact⟨by omega,by omega,by omega,by omega,by omega,by omega,topic_size a1,tag_size a6,a10,a7,fun s hs=>key_size (List.all_eq_true.1 a8 s hs)⟩
 rcases h with ⟨h1,hc,_⟩|⟨h1,hc⟩|⟨⟨h1,h2,h3,h4,h5,h6⟩,⟨h7,h8⟩|⟨h7,_⟩⟩
 ·exact car (.inl h1) hc
 ·exact car (.inr h1) hc
 ·exact⟨by omega,by omega,by omega,by omega,by omega,by omega,by omega,by omega,by omega,by omega,fun s hs=>by rw[List.eq_nil_of_length_eq_zero h6]at hs;cases hs⟩
 ·exact absurd h7 hk
theorem right_zero:∀m,RightP m→m.kind=0→m=fillM m.body.size:=fun m h hk=>by
 obtain⟨_,h⟩:=h
 have hz:∀b:ByteArray,b.size=0→b=⟨#[]⟩:=fun b h=>ba_ext (List.eq_nil_of_length_eq_zero (by rw[size_toList];exact h))
 rcases h with ⟨h1,_⟩|⟨h1,_⟩|⟨⟨h1,h2,h3,h4,h5,h6⟩,⟨h7,_⟩|⟨_,h7,h8,h9,h10⟩⟩
 ·omega
 ·omega
 ·omega
 ·obtain⟨kd,q,du,rt,rf,bn,tp,tg,bd,ks⟩:=m
  simp only at *
  rw[hk,h1,h3,h2,h7,h8,hz tp h4,hz tg h5,List.eq_nil_of_length_eq_zero h6]
  have:=(zeros_iff bd).2 h10
  show (⟨0,0,0,0,0,0,⟨#[]⟩,⟨#[]⟩,bd,[]⟩:MsgS)=⟨0,0,0,0,0,0,⟨#[]⟩,⟨#[]⟩,zerosB bd.size,[]⟩
  rw[←this]
theorem right_fill:∀n,n≤1024→RightP (fillM n):=fun n h =>
 ⟨by simp [numsB,numB],.inr (.inr ⟨⟨rfl,rfl,rfl,rfl,rfl,rfl⟩,.inr ⟨rfl,rfl,rfl,by rw[zerosB_size];exact h,(zeros_iff (zerosB n)).1 (by rw[zerosB_size])⟩⟩)⟩
end Go.Proofs.YtiahjipoofeliaaGreatDoor.rc
