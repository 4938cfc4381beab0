/- Lemmas for this claim. -/
import Derived.Shelf.Strings.SlTrimAscii
import Derived.Lib.Repeat
import Derived.Lib.LaidTab
import Derived.Test.YtiahjipoofeliaaGreatDoorPk21
set_option maxRecDepth 100000
namespace Go.Proofs.YtiahjipoofeliaaGreatDoor.sg
open Go.ChangeShapes Go.WideShapes Go.ChangeAt Go.RowKit Go.Sort Go.Shelf dk
abbrev Tab (w:World):Prop:=Lib.TabIs Tryz.prog w "internal/strconv.uint64pow10" .u64 Lib.pow10Tab
theorem calm_grown (w:World) (k:Nat) (os:Array Obj):Calm w (grow (w.drewN k) os):=by
 refine⟨rfl,rfl,rfl,?_,fun b hb=>?_⟩
 ·simp [grow]
 ·simp [grow,Array.getElem?_append,hb]
theorem repeat_one (b:UInt8):∀n,Lib.repeatL [b] n=List.replicate n b
 | 0=>rfl
 | n+1=>by rw[List.replicate_succ,←repeat_one b n];rfl
theorem name_sum (head:ByteArray) (n:Nat) (hn:n<100000000) (s:ByteArray) (hs:s=⟨(Lib.itoa (n:Int)).toArray⟩) (c:Nat) (hc:c=8-Lib.nDigits n) :
  head++(⟨(Lib.repeatL [48] c).toArray⟩:ByteArray)++s=nameB head n:=by
 subst hs;subst hc
 refine ba_ext ?_
 rw[append_toList,append_toList,Lib.itoa_nonneg,repeat_one]
 show head.data.toList++List.replicate _ 48++Lib.decDigits n=head.data.toList++dL 8 n
 rw[List.append_assoc]
 congr 1
 exact pad_digits 7 n hn
theorem itoa_size (n:Nat):(⟨(Lib.itoa (n:Int)).toArray⟩:ByteArray).size=Lib.nDigits n:=by
 show (Lib.itoa (n:Int)).toArray.size=_
 rw[Lib.itoa_nonneg,List.size_toArray,Lib.decDigits_length]
set_option maxHeartbeats 4000000 in
theorem Name_in (head:ByteArray) (n:Nat) (w:World) (hh:head.size≤1000000) (hn:n<100000000) (htab:Tab w) :
  Calls Tryz.prog 137 #[.string head,.int .i64 n] w fun e w'=>e=.returned (.tuple #[.string (nameB head n),.bool true])∧Calm w w':=by
 have hi:=Tryz.strconv_Itoa (n:Int) (by omega) (by omega) w htab
 obtain⟨s,hs⟩:∃s:ByteArray,s=⟨(Lib.itoa (n:Int)).toArray⟩:=⟨_,rfl⟩
 have hsz:s.size=Lib.nDigits n:=by rw[hs,itoa_size]
 have hle:Lib.nDigits n≤8:=nDigits_le (k:=7) hn
 obtain⟨c,hc⟩:∃c,c=8-Lib.nDigits n:=⟨_,rfl⟩
 have hsum:=box (name_sum head n hn s hs c hc)
 rw[←hs]at hi
 have Hi:=box hi
 have hcs:c+s.size=8:=by omega
 have hr:=box (fun W=>Tryz.strings_Repeat ⟨#[48]⟩ c W (by omega) (by show 1 * c≤_;omega))
 obtain⟨z,hz⟩:∃z:ByteArray,(⟨(Lib.repeatL (⟨#[48]⟩:ByteArray).data.toList c).toArray⟩:ByteArray)=z:=⟨_,rfl⟩
 rw[hz]at hr
 have hsum2:=box (show head++z++s=nameB head n by rw[←hz];exact hsum.out)
 have hzs:z.size=c:=by rw[←hz];show (Lib.repeatL [48] c).toArray.size=c;rw[repeat_one];simp
 have hcat:(head++z).size=head.size+z.size:=ByteArray.size_append
 clear hi htab hs hsz hc hsum hz hle
 go_enter Tryz.func137,Tryz.ntmps137
 go_wp2_with fail
 refine Hi.out.mono ?_
 rintro e w1 ⟨rfl,k,os,rfl⟩
 obtain⟨wr,hwr⟩:∃wr,grow (w.drewN k) os=wr:=⟨_,rfl⟩
 have hc1:=box (show Calm w wr from hwr ▸ calm_grown w k os)
 rw[hwr]
 clear hwr Hi
 have hcc:(8:Int)-s.size=(c:Int):=by omega
 go_wp2_with fail
 refine(hr.out _).mono ?_
 rintro e w2 ⟨rfl,hb2⟩
 have hc2:=box (hc1.out.trans hb2)
 clear hb2 hr hcc
 go_wp2_with fail
 go_ret2
 exact⟨by rw[hsum2.out];rfl,hc2.out⟩
theorem Name_out (head:ByteArray) (k:Int) (w:World) (hk:k<0∨99999999<k) :
  Calls Tryz.prog 137 #[.string head,.int .i64 k] w fun e w'=>e=.returned (.tuple #[.string ⟨#[]⟩,.bool false])∧Calm w w':=by
 rcases hk with h|h
 ·go_enter Tryz.func137,Tryz.ntmps137
  go_wp2_with fail
  go_ret2
  exact⟨rfl,Calm.refl _⟩
 ·by_cases h0:k<0
  ·omega
  ·go_enter Tryz.func137,Tryz.ntmps137
   go_wp2_with fail
   go_ret2
   exact⟨rfl,Calm.refl _⟩
end Go.Proofs.YtiahjipoofeliaaGreatDoor.sg

namespace Go.Proofs.YtiahjipoofeliaaGreatDoor.sg
open Go.ChangeShapes Go.WideShapes Go.ChangeAt Go.RowKit
open dk
theorem infoInt2:(Tryz.prog.info? 3).map (fun i=>(i.zero,i.size,i.bytes))=some (some (.int .i64 0),1,8):=by kernel_rfl
theorem append_place (w : World) (v : Value) (l : List Nat) (x : Nat) (g0 : Nat) (h : w.ownsRow 0 3 1 v l.length (intN l)) (hb : w.heap[g0]? = some (.cells #[.int .i64 (x : Int)] 3 (0, 0))) (hl : l.length ≤ 100000000) (ty : TypeId) :
    ∃ v' w', (Builtin.append_ #[69, 69] ty #[v, .slice (some ⟨g0, 0, none⟩) 1 1]).run Tryz.prog w = .ok v' w' ∧
      w'.ownsRow 0 3 1 v' (l++[x]).length (intN (l++[x]))∧Keeps (fun g=>v.ownBlock=some g) w w'∧∀g,v'.ownBlock=some g→v.ownBlock=some g∨w.heap.size≤g:=by
  obtain⟨i0,hi,hz0,hz1,hz2⟩:=info_parts infoInt2
  obtain ⟨v', w', h1, h2, h3, h4⟩ := append_own (P := Tryz.prog) w 69 ty 3 i0 _ 1 8 Tryz.underlying69 hi hz0 hz1 hz2 (by kernel_rfl) (by decide) v l.length _ h ⟨g0, 0, none⟩ 1 1 (by decide) [.int .i64 (x : Int)] rfl (fun j u hj => by
      rw[add_lit,cell_of hb]
      match j,hj with
      | 0,hj=>exact hj
      | k+1,hj=>simp at hj) (fun u hu=>by
      rcases List.mem_cons.1 hu with rfl|hu
      · rfl
      cases hu) (by simp only[maxLen];omega) (by omega)
  have hg:∀g,v'.ownBlock=some g→v.ownBlock=some g∨w.heap.size≤g:=fun g hg=>by
    rcases h4 with h4|h4
    · exact .inl (h4.symm.trans hg)
    · rw [h4] at hg
      cases hg
      exact .inr (Nat.le_refl _)
  refine⟨v',w',h1,?_,h3,hg⟩
  simpa [intN] using h2
section
variable {w w':World} {r p n:Nat} {R R':RowS} {v v':Value} {D D':DiskS} {F F':Nat→Prop}
theorem name_any (k:Nat) (w:World) (h:RowAt w r p R v) (hk:k≤99999999) (htab:Tab w):Calls Tryz.prog 90 #[ptrTo r,.int .i64 (k:Int)] w fun e w'=>e=.returned (.string (nameB R.head k))∧Calm w w':=by
  obtain⟨c0,c1,c2,c3,c4,c5⟩:=h.cells
  have hlt:=heap_lt h.at_
  have hn:=box (Name_in R.head k w h.ok.head (by omega) htab)
  clear h htab
  go_enter Tryz.func90,Tryz.ntmps90
  go_wp2_with fail
  refine hn.out.mono ?_
  rintro e w' ⟨rfl,hc⟩
  have hc:=box hc
  go_wp2_with fail
  go_ret
  exact⟨rfl,hc.out⟩
theorem _root_.Go.Proofs.YtiahjipoofeliaaGreatDoor.sg.tab_calm {w w':World} (h:Tab w) (hc:Calm w w'):Tab w':=by
  unfold Tab Lib.TabIs World.var? at *
  cases hg:Tryz.prog.globalNamed "internal/strconv.uint64pow10" with
  | none=>rw[hg]at h;exact h
  | some g =>
    rw[hg]at h
    simp only[Option.bind_some]at h ⊢
    cases ho:w.heap[g]? with
    | none=>rw[ho]at h;cases h
    | some o=>rw[heap_calm hc ho];rw[ho]at h;exact h
structure SegAt (W w:World) (r p n:Nat) (D:DiskS) (R:RowS) (F:Nat→Prop) (v:Value):Prop where
  disk:DiskOk w p D F n
  row:RowAt w r p R v
  tab:Tab W
  calm:Calm W w
  fW:∀b,F b→W.heap.size≤b
  rW:W.heap.size≤r
  vW:∀b,v.ownBlock=some b→W.heap.size≤b
theorem SegAt.drew {W:World} (h:SegAt W w r p n D R F v) (hc:Calm w w'):SegAt W w' r p n D R F v:=⟨h.disk.calm hc,h.row.calm hc,h.tab,h.calm.trans hc,h.fW,h.rW,h.vW⟩
theorem SegAt.tab' {W:World} (h:SegAt W w r p n D R F v):Tab w:=tab_calm h.tab h.calm
theorem SegAt.mono {W:World} (h:SegAt W w r p n D R F v) {m:Nat} (hm:n≤m):SegAt W w r p m D R F v:=⟨h.disk.mono hm,h.row,h.tab,h.calm,h.fW,h.rW,h.vW⟩
def rfoot (r:Nat) (v:Value) (b:Nat):Prop:=b=r∨v.ownBlock=some b
structure SegStep (w:World) (r:Nat) (F:Nat→Prop) (v:Value) (w':World) (F':Nat→Prop) (v':Value):Prop where
  keeps:Keeps (fun b=>F b∨rfoot r v b) w w'
  foot:∀b,F' b→F b∨w.heap.size≤b
  row:∀b,v'.ownBlock=some b→v.ownBlock=some b∨w.heap.size≤b
theorem SegStep.refl:SegStep w r F v w F v:=⟨.refl _ _,fun _ h=>.inl h,fun _ h=>.inl h⟩
theorem SegStep.of_calm (h:Calm w w'):SegStep w r F v w' F v:=⟨.of_calm h,fun _ h=>.inl h,fun _ h=>.inl h⟩
theorem SegStep.trans {w'':World} {F'':Nat→Prop} {v'':Value} (h:SegStep w r F v w' F' v') (k:SegStep w' r F' v' w'' F'' v''):SegStep w r F v w'' F'' v'' :=
  ⟨⟨k.keeps.os.trans h.keeps.os,k.keeps.tape.trans h.keeps.tape,k.keeps.output.trans h.keeps.output,Nat.le_trans h.keeps.size k.keeps.size,fun i hi hn =>
    (k.keeps.block i (Nat.lt_of_lt_of_le hi h.keeps.size) (fun hx=>hn (by
      rcases hx with hx|hx|hx
      · rcases h.foot i hx with h1 | h1
        · exact .inl h1
        · omega
      · exact .inr (.inl hx)
      · rcases h.row i hx with h1 | h1
        · exact .inr (.inr h1)
        · omega))).trans (h.keeps.block i hi hn)⟩,
   fun b hb=>by
    rcases k.foot b hb with h1|h1
    · exact h.foot b h1
    · exact .inr (Nat.le_trans h.keeps.size h1),
   fun b hb=>by
    rcases k.row b hb with h1|h1
    · exact h.row b h1
    · exact .inr (Nat.le_trans h.keeps.size h1)⟩
theorem SegStep.calm {w'':World} (h:SegStep w r F v w' F' v') (k:Calm w' w''):SegStep w r F v w'' F' v':=h.trans (.of_calm k)
theorem row_apart {b:Nat} {c:Array Value} (h:DiskOk w p D F n) (hc:w.heap[b]? = some (.cells c 128 (0,0))):¬F b:=fun hf=>by
  obtain⟨mb,wv,h1,rfl⟩:=h.lies
  rcases hf with rfl|rfl|hf|hf
  · rw[h1.obj]at hc;simp only[Option.some.injEq,Obj.cells.injEq]at hc;exact absurd hc.2.1 (by decide)
  · obtain⟨es,c,hm,_⟩:=h1.map;rw[hm]at hc;cases hc
  · obtain⟨c,hc2⟩:=own_row h1.waits hf;rw[hc2]at hc;simp only[Option.some.injEq,Obj.cells.injEq]at hc;exact absurd hc.2.1 (by decide)
  · obtain ⟨f, hf', rfl⟩ := List.mem_map.1 hf
    rw[h1.files f hf']at hc;simp only[Option.some.injEq,Obj.cells.injEq]at hc;exact absurd hc.2.1 (by decide)
theorem places_apart {b:Nat} (h:DiskOk w p D F n) (hr:RowAt w r p R v) (hg:v.ownBlock=some b):¬F b:=fun hf=>by
  obtain⟨cur,hc⟩:=own_row hr.row hg
  obtain⟨mb,wv,h1,rfl⟩:=h.lies
  rcases hf with rfl|rfl|hf|hf
  · rw[h1.obj]at hc;simp only[Option.some.injEq,Obj.cells.injEq]at hc;exact absurd hc.2.1 (by decide)
  · obtain⟨es,c,hm,_⟩:=h1.map;rw[hm]at hc;cases hc
  · obtain⟨c,hc2⟩:=own_row h1.waits hf;rw[hc2]at hc;simp only[Option.some.injEq,Obj.cells.injEq]at hc;exact absurd hc.2.1 (by decide)
  · obtain ⟨f, hf', rfl⟩ := List.mem_map.1 hf
    rw[h1.files f hf']at hc;simp only[Option.some.injEq,Obj.cells.injEq]at hc;exact absurd hc.2.1 (by decide)
theorem row_ne (hr:RowAt w r p R v):v.ownBlock≠some r:=fun e=>by
  obtain⟨cur,hc⟩:=own_row hr.row e
  rw[hr.at_]at hc;simp only[Option.some.injEq,Obj.cells.injEq]at hc;exact absurd hc.2.1 (by decide)
theorem RowAt.step (hr:RowAt w r p R v) (h:DiskOk w p D F n) (s:Step F w F' w'):RowAt w' r p R v :=
  ⟨s.same hr.at_ (row_apart h hr.at_),row_same hr.row (fun g hg=>s.keeps.block g (hr.row.lt g hg).2 (places_apart h hr hg)),hr.ok⟩
theorem SegStep.of_disk (s:Step F w F' w'):SegStep w r F v w' F' v:=⟨s.keeps.mono (fun _ _ h=>.inl h),s.foot,fun _ h=>.inl h⟩
theorem SegAt.next {W:World} {D':DiskS} {m:Nat} (h:SegAt W w r p n D R F v) (hd:DiskOk w' p D' F' m) (hr:RowAt w' r p R' v') (s:SegStep w r F v w' F' v'):SegAt W w' r p m D' R' F' v' :=
  ⟨hd,hr,h.tab,Below.trans h.calm (s.keeps.below h.calm.size (fun b hb=>by
    rcases hb with hb|rfl|hb
    · exact h.fW b hb
    · exact h.rW
    · exact h.vW b hb)),fun b hb=>by
    rcases s.foot b hb with h1|h1
    · exact h.fW b h1
    · exact Nat.le_trans h.calm.size h1,h.rW,fun b hb=>by
    rcases s.row b hb with h1|h1
    · exact h.vW b h1
    · exact Nat.le_trans h.calm.size h1⟩
theorem SegAt.disked {W:World} {D':DiskS} {m:Nat} (h:SegAt W w r p n D R F v) (hd:DiskOk w' p D' F' m) (s:Step F w F' w'):SegAt W w' r p m D' R F' v∧SegStep w r F v w' F' v :=
  ⟨h.next hd (h.row.step h.disk s) (SegStep.of_disk s),SegStep.of_disk s⟩
end
end Go.Proofs.YtiahjipoofeliaaGreatDoor.sg
