/- Lemmas for this claim. -/
import Derived.Test.YtiahjipoofeliaaGreatDoorPk39
set_option maxRecDepth 100000
namespace Go.Proofs.YtiahjipoofeliaaGreatDoor.tp.crash
open Go.ChangeShapes Go.WideShapes Go.ChangeAt Go.RowKit
open rc dk sg tp
theorem walk (W:World) (ht:Tab W) (y:CrashS×Value×Value) (r:CrashIn W y.1 y.2.1 y.2.2) (mo:MsgS×Value) (rm:MsgIn W mo) :
  Calls Tryz.prog 4 #[.agg (crashA y.1 y.2.1 y.2.2),.agg (msgA mo.1 mo.2)] W fun e W'=>e=.returned (.bool true)∧Calm W W':=crashes.walk W ht y r mo rm
abbrev LAIDS:List (String×DataW Unit):=[("math/bits.deBruijn32tab",Rows.laid_math_bits_deBruijn32tab),("math/bits.deBruijn64tab",Rows.laid_math_bits_deBruijn64tab),("internal/strconv.uint64pow10",Rows.laid_internal_strconv_uint64pow10),("unicode/utf8.acceptRanges",Rows.laid_unicode_utf8_acceptRanges),("strconv.ErrRange",Rows.laid_strconv_ErrRange),("strconv.ErrSyntax",Rows.laid_strconv_ErrSyntax),("unicode/utf8.first",Rows.laid_unicode_utf8_first)]
theorem own:ownKnob Tryz.prog.godebug=none:=by kernel_rfl
theorem laidOut:laidOutB Tryz.prog=true:=by kernel_rfl
set_option linter.unusedVariables false in
theorem lifted (os:Os) (started:os.Started) (H:Type) (enc:TypeId×Value→H) :
  ReturnsInHanded {} Tryz.checked os 4 .any (fun w args=>(Rows.tapeCrashesSpec.pre enc Tryz.prog Tryz.f4 Rows.tapeCrashesRow.domain false w args∧laidMetH Tryz.prog LAIDS w)∧sizedMet enc Tryz.prog Tryz.f4 (OpenSpec.ofChange Rows.tapeCrashesSpec) false w args) (Rows.tapeCrashesSpec.post enc Tryz.prog Tryz.f4 false true false false):=by
 refine handed_and_shaped (C:=Tryz.checked) (X:=fun w _=>laidMetH Tryz.prog LAIDS w) (fun _ _ _ hh h=>h.of_heap hh) own started (by kernel_rfl) Tryz.func4
  (ChangeSpec.witness_shaped (enc:=enc) (C:=Tryz.checked) (os:=os) (X:=fun w _=>laidMetH Tryz.prog LAIDS w) false (World.laidAll Tryz.prog os LAIDS) #[.agg #[.slice none 0 0,.int .u8 0,.int .i64 0,.slice none 0 0,.int .i64 0],.agg #[.int .i64 0,.int .i64 0,.int .i64 0,.int .i64 0,.int .i64 0,.int .i64 0,.string ⟨#[]⟩,.string ⟨#[]⟩,.string ⟨#[]⟩,.slice none 0 0]] 8 (World.laidAll_os _ _ _)
   (World.shaped_of_ZipB (by kernel_rfl) (by kernel_rfl)) (by kernel_rfl) (by kernel_rfl) (by kernel_rfl)
   (by rw[MakeChecks.laidMetH_plain _ _ _ (by kernel_rfl)];exact laidMet_laidAll _ (by kernel_rfl) (by kernel_rfl))) ?_
 intro W base args ds gs before hval0 hW hcnd hsz0 hX hshape _
 have hsz:(DataW.weightsEach Tryz.prog (Tryz.f4.params.toList++[]) (ds++gs)).all (· ≤ reachBytes)=true:=hsz0
 clear hsz0
 have hval:∀(j:Nat) t v,Tryz.f4.params[j]? = some t→args[j]? = some v→Value.okWide Tryz.prog W .any base t v:=hval0
 have hW':=hW
 obtain⟨p,q,hA0,hV,rfl,hfz,hnd⟩:=hW
 have hA:DataW.TrodAll enc Tryz.prog W 0 (fun _=>true) true Tryz.f4.params.toList args.toList ds p:=hA0
 rw[Tryz.params4]at hA hval hsz
 obtain⟨v0,vs0,d0,ds0,p0,q0,hargs,rfl,rfl,h0,r0'⟩:=trodAll_cons hA
 obtain⟨v1,vs1,d1,ds1,p1,q1,rfl,rfl,rfl,h1,r1'⟩:=trodAll_cons r0'
 obtain⟨rfl,rfl,rfl⟩:=trodAll_nil r1'
 obtain rfl:args=#[v0,v1]:=by cases args;simp_all
 obtain⟨rfl,rfl⟩:=trodVars_none hV
 clear hA0 hval0
 have wt0:=fun n hn=>(by simpa using List.all_eq_true.1 hsz n (DataW.weights_mem_each (j:=0) rfl rfl n hn):n≤reachBytes)
 have wt1:=fun n hn=>(by simpa using List.all_eq_true.1 hsz n (DataW.weights_mem_each (j:=1) rfl rfl n hn):n≤reachBytes)
 have hlt:∀x∈p0++(p1++[]),x.block<W.heap.size:=fun x hx=>by have:=hW'.lt x (by simpa using hx);simpa using this
 have hL:laidMet Tryz.prog LAIDS W:=by
  have h:laidMetH Tryz.prog LAIDS W:=hX
  rw[MakeChecks.laidMetH_plain _ _ _ (by kernel_rfl)]at h
  exact h
 have htab:Lib.TabIs Tryz.prog W "internal/strconv.uint64pow10" .u64 Lib.pow10Tab :=
  Lib.tabIs_of_head (g:=0) (by kernel_rfl) (by kernel_rfl) Tryz.underlying282 Tryz.underlying204 (by kernel_rfl) (by kernel_rfl) (show laidMet Tryz.prog (("internal/strconv.uint64pow10",Lib.tabData .u64 Lib.pow10Tab) :: _) W from hL.tail.tail)
 obtain⟨y0,e0,r0⟩:=crash_arg (struct_shape Tryz.underlying60 (hval 0 60 v0 rfl rfl)) ((opens_crash).arg h0)
 subst e0
 obtain⟨y1,e1,r1⟩:=msg_arg (struct_shape Tryz.underlying63 (hval 1 63 v1 rfl rfl)) ((opens_msg).arg h1)
 subst e1
 refine(walk W htab y0 r0 y1 r1).mono fun e W' ⟨he,hg⟩=>?_
 subst he
 refine⟨_,rfl,_,_,_,[]++[],p0++(p1++[]),[],hW',?_,?_,?_,hg.frame _,fun h=>by cases h⟩
 ·exact trodAll_mk1 (shut_bool Tryz.underlying4 true)
 ·exact trodAll_cons_mk (Below.trod laidOut (by kernel_rfl) (of_decide_eq_true (by kernel_rfl)) h0 hg (fun x hx=>hlt x (by simp [hx]))) (trodAll_cons_mk (Below.trod laidOut (by kernel_rfl) (of_decide_eq_true (by kernel_rfl)) h1 hg (fun x hx=>hlt x (by simp [hx]))) (trodAll_mk0))
 ·exact rfl
set_option maxHeartbeats 8000000 in
theorem closed:joinedFacts Tryz.pinned.checked.prog 4 Tryz.f4 Rows.tapeCrashesSpec Rows.tapeCrashesRow=true:=by
 unfold joinedFacts
 repeat' (with_reducible refine Bool.and_eq_true_iff.2 ⟨?_,?_⟩)
 all_goals (as_aux_lemma=>kernel_rfl)
theorem over:Rows.tapeCrashesRow.holds Tryz.pinned (OpenSpec.ofChange Rows.tapeCrashesSpec) :=
 OpenClaim.holds_of_wide 4 Tryz.f4 rfl rfl rfl rfl rfl rfl rfl ⟨rfl,rfl,rfl,rfl,rfl⟩ rfl rfl rfl rfl rfl (by as_aux_lemma=>kernel_rfl) Tryz.func4 closed
  (of_decide_eq_true (by as_aux_lemma=>kernel_rfl)) (by unfold Func.isWrapper;first|(rw[if_pos (by decide +kernel)];kernel_rfl)|(rw[if_neg (by decide +kernel)];exact⟨rfl,rfl⟩))
  (fun os started H enc _=>lifted os started H enc)
theorem proved:Rows.TapeCrashesCardSaid :=
 Claim7.holds_tied_plain_at .later [] [.data,.data,.data,.data,.sentinel,.sentinel,.pinned] true _ true over (fun _ h=>by cases h) (by as_aux_lemma=>kernel_rfl) (fun _ h=>by cases h) tapeCrashes_row_tie rfl ⟨rfl,rfl⟩ (by as_aux_lemma=>kernel_rfl) rfl
  (fun f fn hf hfn=>by
   obtain rfl:f=4:=Option.some.inj ((show Tryz.prog.funcNamed "reveille/reveillelaw08.TapeCrashes" = some 4 by as_aux_lemma=>kernel_rfl).symm.trans hf) |>.symm
   obtain rfl:fn=Tryz.f4:=(Option.some.inj (Tryz.func4.symm.trans hfn)).symm
   exact⟨by as_aux_lemma=>kernel_rfl,fun j t ht=>by
    rw[Tryz.params4]at ht
    have hm:t∈[60,63]:=by simpa using Array.mem_of_getElem? ht
    have hall:([60,63].all fun u=>!Tryz.prog.wantsStandIn u)=true:=by as_aux_lemma=>kernel_rfl
    exact(show Tryz.prog.wantsStandIn t=false by simpa using List.all_eq_true.1 hall t hm)⟩)
  (by as_aux_lemma=>kernel_rfl)
#print axioms proved
end Go.Proofs.YtiahjipoofeliaaGreatDoor.tp.crash
