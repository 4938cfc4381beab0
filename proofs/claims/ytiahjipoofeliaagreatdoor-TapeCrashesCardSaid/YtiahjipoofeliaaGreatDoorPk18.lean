/- Lemmas for this claim. -/
import Derived.Lib.SlicesCompact
import Derived.Test.YtiahjipoofeliaaGreatDoorPk17
set_option maxRecDepth 100000
namespace Go.Proofs.YtiahjipoofeliaaGreatDoor.vs
open Go.RowKit Go.Shelf Go.Maps Go.Sort
abbrev leT (x y:List UInt8):Bool:=decide (x≤y)
theorem sorted_t (l:List (List UInt8)):(l.mergeSort leT).Pairwise (fun x y=>x≤y):=by
 have:(l.mergeSort leT).Pairwise (fun x y=>leT x y=true):=by
  refine List.pairwise_mergeSort ?_ ?_ l
  ·intro a b c h1 h2;simp only[decide_eq_true_eq]at *;exact List.le_trans h1 h2
  ·intro a b;simp only[Bool.or_eq_true,decide_eq_true_eq];exact List.le_total a b
 exact this.imp fun h=>of_decide_eq_true h
theorem get_bang (S:List (List UInt8)) {j:Nat} (hj:j<S.length):S.toArray[j]! = S[j]:=by
 simp [getElem!_pos,hj]
theorem near_nodup:∀(S:List (List UInt8)),S.Pairwise (fun x y=>x≤y)→(∀j (hj:j+1<S.length),S[j+1]≠S[j]'(by omega))→S.Nodup
 | [],_,_=>List.nodup_nil
 | x :: S,hs,hn=>by
  obtain⟨h1,h2⟩:=List.pairwise_cons.1 hs
  refine List.nodup_cons.2 ⟨fun hx=>?_,near_nodup S h2 (fun j hj=>by have:=hn (j+1) (by simpa using hj);simpa using this)⟩
  cases S with
  | nil=>cases hx
  | cons y S =>
   have hne:y≠x:=by have:=hn 0 (by simp);simpa using this
   rcases List.mem_cons.1 hx with e|hx
   ·exact hne e.symm
   ·have a1:=(List.pairwise_cons.1 h2).1 x hx
    have a2:=h1 y (List.mem_cons_self ..)
    exact hne (List.le_antisymm a1 a2)
theorem compact_len (S:List (List UInt8)) (hs:S.Pairwise (fun x y=>x≤y)):(Lib.compact S).length=S.length↔S.Nodup:=by
 constructor
 ·intro h
  refine near_nodup S hs (fun j hj e=>?_)
  have hk:∀i∈List.range S.length,Lib.keeps S.toArray i=true:=by
   unfold Lib.compact Lib.compactUpTo at h
   rw[List.length_map]at h
   have h2:=List.length_filter_eq_length_iff.1 (h.trans List.length_range.symm)
   exact h2
  have:=hk (j+1) (List.mem_range.2 hj)
  unfold Lib.keeps at this
  simp only[decide_eq_true_eq,Nat.add_sub_cancel]at this
  rcases this with h0|h0
  ·omega
  ·rw[get_bang S hj,get_bang S (by omega)]at h0
   exact h0 e
 ·intro h
  rw[Lib.compact_all]
  intro j hj
  unfold Lib.keeps
  simp only[decide_eq_true_eq]
  by_cases h0:j=0
  ·exact .inl h0
  ·right
   rw[get_bang S hj,get_bang S (by omega)]
   exact fun e=>by
    have:=(List.getElem_inj h).1 e
    omega
def unlikeB (l:List ByteArray):Bool:=decide ((l.map (·.data.toList)).Nodup)
theorem compact_unlike (l:List ByteArray):decide ((Lib.compact ((l.map (·.data.toList)).mergeSort leT)).length=l.length)=unlikeB l:=by
 have h1:=compact_len _ (sorted_t (l.map (·.data.toList)))
 rw[List.length_mergeSort,List.length_map]at h1
 have h2:((l.map (·.data.toList)).mergeSort leT).Nodup↔(l.map (·.data.toList)).Nodup:=(List.mergeSort_perm _ _).nodup_iff
 unfold unlikeB
 exact decide_eq_decide.2 (h1.trans h2)
theorem texts_of {w:World} {v:Value} {l:List ByteArray} (h:StrsAt w v l):∃a cap,v=.slice a l.length cap∧Texts w.heap.size w v l:=by
 rcases h with ⟨rfl,a,cap,rfl⟩|⟨b,off,cap,rfl,hc⟩
 ·exact⟨a,cap,rfl,.inl ⟨a,cap,rfl,rfl⟩⟩
 ·refine⟨_,cap,rfl,?_⟩
  by_cases h0:l.length=0
  ·have:l=[]:=List.eq_nil_of_length_eq_zero h0
   subst this
   exact .inl ⟨_,_,rfl,rfl⟩
  ·refine .inr ⟨b,off,cap,rfl,World.block_lt_of_cell? w ⟨b,off+0,none⟩ (hc 0 (by omega)),fun j hj=>?_⟩
   rw[hc j hj,List.getD_eq_getElem?_getD]
   rfl
theorem enc_strs (l:List ByteArray):l.map Value.string=(l.map (·.data.toList)).map encStr:=by
 rw[List.map_map]
 apply List.map_congr_left
 intro x _
 simp [encStr]
theorem AppendSeq_any (Bs n₀:Nat) (sv:Value) (zs:List ByteArray) (hlen:zs.length≤1000000) (w:World) (hBs:Bs<w.heap.size) (hn₀:n₀≤w.heap.size) (hc:w.cell? ⟨Bs,0,none⟩=some sv) (hI:Texts n₀ w sv zs) :
  Calls Tryz.prog 169 #[.slice none 0 0,.func (.func VI) #[] #[.pointer (some ⟨Bs,0,none⟩)]] w fun e W'=>∃v,e=.returned v∧W'.ownsRow w.heap.size 9 1 v zs.length (zs.map Value.string)∧(v=.slice none 0 0↔zs=[])∧Below w.heap.size w W' :=
 callsIn_wide.1 (appendSeq_in Fence.wide 5 trivial trivial rfl (by omega) Bs n₀ sv zs hlen w hBs hn₀ hc hI)
theorem Sorted_any (Bs n₀:Nat) (sv:Value) (zs:List ByteArray) (hlen:zs.length≤1000000) (w:World) (hBs:Bs<w.heap.size) (hn₀:n₀≤w.heap.size) (hc:w.cell? ⟨Bs,0,none⟩=some sv) (hI:Texts n₀ w sv zs) :
  Calls Tryz.prog 74 #[.func (.func VI) #[] #[.pointer (some ⟨Bs,0,none⟩)]] w fun e W'=>∃v,e=.returned v∧W'.ownsRow w.heap.size 9 1 v zs.length (((zs.map (·.data.toList)).mergeSort leT).map encStr)∧Calm w W':=by
 have hcol:Calls Tryz.prog 125 #[.func (.func VI) #[] #[.pointer (some ⟨Bs,0,none⟩)]] w fun e W'=>∃v,e=.returned v∧W'.ownsRow w.heap.size 9 1 v zs.length (zs.map Value.string)∧(v=.slice none 0 0↔zs=[])∧Below w.heap.size w W':=by
  have H:=box (AppendSeq_any Bs n₀ sv zs hlen w hBs hn₀ hc hI)
  clear hc hI
  go_enter Tryz.func125,Tryz.ntmps125
  go_wp2_with fail
  refine H.out.mono ?_
  rintro e w1 ⟨v,rfl,h1,h2,h3⟩
  go_wp2_with fail
  go_ret
  exact⟨v,rfl,h1,h2,h3⟩
 have H:=box hcol
 clear hcol hc hI
 go_enter Tryz.func74,Tryz.ntmps74
 go_wp2_with fail
 refine H.out.mono ?_
 rintro e w1 ⟨v,rfl,hrow,hnil,hb⟩
 rw[enc_strs]at hrow
 rcases hrow.2 with ⟨rfl,hz⟩|⟨gb,cap,cur,rfl,hbase,hgb,r1,r2,r3,r4⟩
 ·have hss:zs=[]:=List.eq_nil_of_length_eq_zero hz
  subst hss
  have Hrow:=box hrow
  clear hrow hnil
  go_wp2_with fail
  refine(Tryz.slices_Sort_string_none none 0 w1).mono ?_
  rintro e w2 ⟨rfl,rfl⟩
  go_wp2_with fail
  go_ret
  exact⟨_,rfl,by simpa using Hrow.out,hb⟩
 ·have hH:Holds encStr w1 gb 0 (zs.map (·.data.toList)).toArray:=holds_of_block hgb (by simpa using r4)
  have hgl:gb<w1.heap.size:=(Array.getElem?_eq_some_iff.1 hgb).1
  have cS:=box (Tryz.slices_Sort_string gb 0 cap (zs.map (·.data.toList)) w1 hH hgl (by rw[List.length_map];omega))
  have cS:=cS.out
  rw[List.length_map]at cS
  have cS:=box cS
  have R4:=box r4
  have R3:=box r3
  have Hgb:=box hgb
  clear hrow hnil hH r4 r3 hgb
  go_wp2_with fail
  refine cS.out.mono ?_
  rintro e w2 ⟨rfl,nn,os,rfl⟩
  go_wp2_with fail
  go_ret
  refine⟨_,rfl,?_,hb.grown (grownBy_sorted _) hb.size (fun j hj=>by cases hj;exact hbase)⟩
  have:=ownsRow_sorted (ss:=zs.map (·.data.toList)) (ts:=(zs.map (·.data.toList)).mergeSort leT) (n:=nn) (os:=os) (by rw[List.length_mergeSort]) hbase Hgb.out (by rw[List.length_map];exact r1) r2 R3.out
  rw[List.length_map]at this
  exact this
theorem calm_put0 {α:Type} [Inhabited α] {enc:α→Value} {w w1:World} (h:Calm w w1) {q g off:Nat} {d:Array α} (hg:w.heap.size≤g):Calm w (putRow enc (Sort.ahead w1 q) g off d):=by
 refine⟨h.os,h.tape,h.output,?_,fun k hk=>?_⟩
 ·simpa [putRow,mapBlock,Sort.ahead] using h.size
 ·have:(putRow enc (Sort.ahead w1 q) g off d).heap[k]? = w1.heap[k]? := by
   simp only[putRow,mapBlock,Sort.ahead,Array.getElem?_modify]
   rw[if_neg (by omega)]
  rw[this];exact h.block k hk
theorem unlike_any (v:Value) (l:List ByteArray) (w:World) (h:StrsAt w v l) (hl:l.length≤1000000) :
  Calls Tryz.prog 232 #[v] w fun e w'=>e=.returned (.bool (unlikeB l))∧Calm w w':=by
 obtain⟨a,cap,rfl,ht⟩:=texts_of h
 have hB:Calm w (w.alloc (.cells #[.slice a l.length cap] 61)):=(Calm.refl w).alloc _
 have H:=box (Sorted_any w.heap.size w.heap.size _ l hl (w.alloc (.cells #[.slice a l.length cap] 61)) (by simp) (by simp) (cell_of (heap_new w _) 0) (ht.below hB))
 have HB:=box hB
 clear h ht hB
 go_enter Tryz.func232,Tryz.ntmps232
 go_wp2_with fail
 refine(Values_any a l.length cap w).mono ?_
 rintro e w1 ⟨rfl,rfl⟩
 go_wp2_with fail
 refine H.out.mono ?_
 rintro e w2 ⟨v,rfl,hrow,hc2⟩
 have hC:=HB.out.trans hc2
 rcases hrow.2 with ⟨rfl,hz⟩|⟨gb,cap2,cur,rfl,hbase,hgb,r1,r2,r3,r4⟩
 ·have hl0:l=[]:=List.eq_nil_of_length_eq_zero hz
  subst hl0
  have HC:=box hC
  clear hrow hC hc2
  go_wp2_with fail
  refine(Tryz.slices_Compact_string_empty none 0 w2).mono ?_
  rintro e w3 ⟨rfl,rfl⟩
  go_wp2_with fail
  go_ret
  exact⟨by rfl,HC.out⟩
 ·have hln:((l.map (·.data.toList)).mergeSort leT).length=l.length:=by rw[List.length_mergeSort,List.length_map]
  have hH:Holds encStr w2 gb 0 ((l.map (·.data.toList)).mergeSort leT).toArray:=holds_of_block hgb (by simpa [hln] using r4)
  have cS:=Tryz.slices_Compact_string gb 0 cap2 ((l.map (·.data.toList)).mergeSort leT) w2 hH (by omega) (by omega)
  rw[hln]at cS
  have cS:=box cS
  have hun:=compact_unlike l
  have hcl:(Lib.compact ((l.map (·.data.toList)).mergeSort leT)).length≤l.length:=by rw[←hln];exact Lib.compact_length_le _
  obtain⟨m,hm⟩:∃m,(Lib.compact ((l.map (·.data.toList)).mergeSort leT)).length=m:=⟨_,rfl⟩
  rw[hm]at hun hcl
  have Hun:=box hun
  have HC:=box hC
  have hbase2:w.heap.size≤gb:=by simp at hbase;omega
  clear hrow hC hc2 hgb r4 r3 hH hun
  go_wp2_with fail
  refine cS.out.mono ?_
  rw[hm]
  rintro e w3 ⟨rfl,q,rfl⟩
  go_wp2_with fail
  go_ret
  refine⟨ret_bool (by rw[←Hun.out,Bool.eq_iff_iff];simp;omega),calm_put0 HC.out hbase2⟩
end Go.Proofs.YtiahjipoofeliaaGreatDoor.vs
