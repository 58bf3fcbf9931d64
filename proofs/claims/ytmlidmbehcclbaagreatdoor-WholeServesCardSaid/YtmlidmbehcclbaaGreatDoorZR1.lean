/- The row and the card of WholeServes: of many clients that send to one server each message comes once, in order, and each answer to its caller. Condition of the row: the tables that it lists hold what its text says; the card ties them to the text. -/
import Derived.Test.YtmlidmbehcclbaaGreatDoorY51
set_option maxRecDepth 100000
namespace Go.Proofs.YtmlidmbehcclbaaGreatDoor.wholeServes
open Go.Proofs.Tryz Go.ChangeShapes Go.WideShapes Go.ChangeAt Go.RowKit Go.Deep
theorem own:ownKnob prog.godebug=none:=by kernel_rfl
theorem laidOut:laidOutB prog=true:=by kernel_rfl
theorem contract(H:Type)(enc:TypeId×Value->H)(W:World)(base:Nat)(args:Array Value)(ds gs:List (DataW H))(before:List MemPlace)
  (hval:∀(j:Nat) t v,Tryz.f3.params[j]?=some t->args[j]?=some v->Value.okWide prog W .any base t v)
  (hW:DataW.Whole enc prog Tryz.f3.params.toList Rows.wholeServesSpec.vars false W args.toList ds gs before) (hL:laidMetH prog Rows.wholeServesRow.laid W):
  Calls prog 3 args W λe W'=>∃v,e=.returned v/\Rows.wholeServesSpec.post enc prog Tryz.f3 false true false false W args v W':=by
 have hL2:laidMetH prog Rows.wholeServesRow.laid W:=hL
 have hZ:Yo W:=tabz_of_laid hL2
 have hC:Zj W:=tabc_of_laid hL2
 have hT:Cl.TabAt W:=Cl.tab_of_laid hL2
 have hW':=hW
 obtain⟨p,q,hA0,hV,rfl,hfz,hnd⟩:=hW
 have hA:DataW.TrodAll enc prog W 0 (λ_=>true) true Tryz.f3.params.toList args.toList ds p:=hA0
 rw[Tryz.params3]at hA hval
 clear hA0
 obtain⟨v0,vs0,d0,ds0,p0,q0,hargs,rfl,rfl,h0,r0⟩:=trodAll_cons hA
 obtain⟨v1,vs1,d1,ds1,p1,q1,rfl,rfl,rfl,h1,r1⟩:=trodAll_cons r0
 obtain⟨v2,vs2,d2,ds2,p2,q2,rfl,rfl,rfl,h2,r2⟩:=trodAll_cons r1
 obtain⟨rfl,rfl,rfl⟩:=trodAll_nil r2
 obtain rfl:args=#[v0,v1,v2]:=Array.toList_inj.1 hargs
 obtain⟨n0,rfl,rfl,rfl,hn0⟩:=open_int underlying5 (hval 0 5 v0 rfl rfl) h0
 simp[Lit.wf,IntKind.min,IntKind.max,IntKind.signed,IntKind.bits]at hn0
 obtain⟨n0,rfl⟩:=Qv (show 0<=n0 by omega)
 obtain⟨n1,rfl,rfl,rfl,hn1⟩:=open_int underlying22 (hval 1 22 v1 rfl rfl) h1
 simp[Lit.wf,IntKind.min,IntKind.max,IntKind.signed,IntKind.bits]at hn1
 obtain⟨n1,rfl⟩:=Qv (show 0<=n1 by omega)
 obtain⟨n2,rfl,rfl,rfl,hn2⟩:=open_int underlying23 (hval 2 23 v2 rfl rfl) h2
 simp[Lit.wf,IntKind.min,IntKind.max,IntKind.signed,IntKind.bits]at hn2
 obtain⟨n2,rfl⟩:=Qv (show 0<=n2 by omega)
 refine(serves_walk n0 n1 n2 (by omega) (by omega) (by omega) W hZ hC hT (awake_walk W hZ hC hT)).mono λe W' h=>?_
 obtain⟨he,hb⟩:=h
 subst he
 exact⟨_,rfl,post_true laidOut (by rw[Tryz.params3];simp only[Qr,Qw,or_false];intro t ht;(first|(rcases ht with rfl|rfl|rfl|rfl)|(rcases ht with rfl|rfl|rfl)|(rcases ht with rfl|rfl)|(rcases ht with rfl))<;>exact⟨by kernel_rfl,by decide+kernel⟩) rfl underlying4 rfl hW' (λds' hg hd=>by subst hd;subst hg;rfl) hb⟩
def lay32:Obj->Obj
 |.cells _ t frozen=>.cells #[.int .u8 0,.int .u8 1,.int .u8 28,.int .u8 2,.int .u8 29,.int .u8 14,.int .u8 24,.int .u8 3,.int .u8 30,.int .u8 22,.int .u8 20,.int .u8 15,.int .u8 25,.int .u8 17,.int .u8 4,.int .u8 8,.int .u8 31,.int .u8 27,.int .u8 13,.int .u8 23,.int .u8 21,.int .u8 19,.int .u8 16,.int .u8 7,.int .u8 26,.int .u8 12,.int .u8 18,.int .u8 6,.int .u8 11,.int .u8 5,.int .u8 10,.int .u8 9] t frozen
 |o=>o
def lay64:Obj->Obj
 |.cells _ t frozen=>.cells #[.int .u8 0,.int .u8 1,.int .u8 56,.int .u8 2,.int .u8 57,.int .u8 49,.int .u8 28,.int .u8 3,.int .u8 61,.int .u8 58,.int .u8 42,.int .u8 50,.int .u8 38,.int .u8 29,.int .u8 17,.int .u8 4,.int .u8 62,.int .u8 47,.int .u8 59,.int .u8 36,.int .u8 45,.int .u8 43,.int .u8 51,.int .u8 22,.int .u8 53,.int .u8 39,.int .u8 33,.int .u8 30,.int .u8 24,.int .u8 18,.int .u8 12,.int .u8 5,.int .u8 63,.int .u8 55,.int .u8 48,.int .u8 27,.int .u8 60,.int .u8 41,.int .u8 37,.int .u8 16,.int .u8 46,.int .u8 35,.int .u8 44,.int .u8 21,.int .u8 52,.int .u8 32,.int .u8 23,.int .u8 11,.int .u8 54,.int .u8 26,.int .u8 40,.int .u8 15,.int .u8 34,.int .u8 20,.int .u8 31,.int .u8 10,.int .u8 25,.int .u8 14,.int .u8 19,.int .u8 9,.int .u8 13,.int .u8 8,.int .u8 7,.int .u8 6] t frozen
 |o=>o
def layC:Obj->Obj
 |.cells _ t frozen=>.cells #[.int .i64 0,.int .i64 64,.int .i64 128,.int .i64 256,.int .i64 32,.int .i64 32,.int .i64 48,.int .i64 256] t frozen
 |o=>o
def layT:Obj->Obj
 |.cells _ t frozen=>.cells (Cl.Jv.flatMap λt=>[Value.int .i64 t.1,.int .i64 t.2.1,.bool t.2.2]).toArray t frozen
 |o=>o
noncomputable def laidWorld(os:Os):World:=
 {World.holding prog os ⟨#[],#[],[]⟩with heap:=((((World.holding prog os ⟨#[],#[],[]⟩).heap.modify 2 lay32).modify 3 lay64).modify 0 layC).modify 1 layT}
theorem laid_met(os:Os):laidMet prog Rows.wholeServesRow.laid ((laidWorld os).forCall (λ_ _=>0) ⟨#[],#[.int .u8 0,.int .u64 0,.int .u16 0],[]⟩).memory:=
 laidMet_of_run' 8 (by kernel_rfl) (by kernel_rfl)
theorem reads(os:Os){H:Type}(enc:TypeId×Value->H):∃places,DataW.whole enc prog ((laidWorld os).forCall (λ_ _=>0) ⟨#[],#[.int .u8 0,.int .u64 0,.int .u16 0],[]⟩).memory Tryz.f3.params.toList Rows.wholeServesSpec.vars false (#[.int .u8 0,.int .u64 0,.int .u16 0]:Array Value).toList 8=some ([.lit (.int .u8 0),.lit (.int .u64 0),.lit (.int .u16 0)],[],places):=
 ⟨[],by kernel_rfl⟩
theorem lifted(os:Os)(started:os.Started)(H:Type)(enc:TypeId×Value->H)(F:Stop.Interp):
  ReturnsInHanded {} Tryz.checked os 3 .any ((OpenSpec.ofChange Rows.wholeServesSpec).preRow enc prog Tryz.f3 Rows.wholeServesRow.domain false Rows.wholeServesRow.laid) (((OpenSpec.ofChange Rows.wholeServesSpec).at F).post enc prog Tryz.f3 false true false false):=by
 obtain⟨places,hx⟩:=reads os enc
 refine returnsInHanded_of_row (C:=Tryz.checked) (s:=OpenSpec.ofChange Rows.wholeServesSpec) own started (by kernel_rfl) func3
  (witness_row_at (enc:=enc) (C:=Tryz.checked) false (laidWorld os) #[.int .u8 0,.int .u64 0,.int .u16 0] rfl (by kernel_rfl) (by kernel_rfl) (by kernel_rfl)
   (OpenSpec.preRow_of_cond 8 hx (by kernel_rfl) (λk hk=>by cases hk) (by kernel_rfl) (laid_met os))) ?_
 intro W base args ds gs before hval hW _ _ _ hL _ _
 exact contract H enc W base args ds gs before hval hW hL
theorem Vc{a b:Bool}(ha:a=true)(hb:b=true):(a&&b)=true:=by rw[ha,hb];rfl
theorem q0:(Rows.wholeServesRow.wf (OpenSpec.ofChange (OpenSpec.ofChange Rows.wholeServesSpec).bare))=true:=by kernel_rfl
theorem q1:(laidOutB prog)=true:=by kernel_rfl
theorem q2:(mapsRowed prog)=true:=by kernel_rfl
theorem q3:(Tryz.f3.params.all (prog.readableRec ·))=true:=by kernel_rfl
theorem q4:(namedTie prog Rows.wholeServesRow.named (OpenSpec.ofChange Rows.wholeServesSpec).bare.vars)=true:=by kernel_rfl
theorem q5:((Rows.wholeServesRow.stops==[]))=true:=by kernel_rfl
theorem q6:((prog.stops==[]))=true:=by kernel_rfl
theorem q7:((Rows.wholeServesRow.knobs==[]))=true:=by kernel_rfl
theorem q8:((prog.stopKnobs==[]))=true:=by kernel_rfl
theorem q9:((Rows.wholeServesRow.inPlace==prog.inPlace 3))=true:=by kernel_rfl
theorem q10:((Rows.wholeServesRow.unfollowed==prog.unfollowed 3))=true:=by kernel_rfl
theorem q11:((Rows.wholeServesRow.recurses==prog.recurses 3))=true:=by kernel_rfl
theorem q12:((Rows.wholeServesRow.named==prog.varsNamed 3))=true:=by kernel_rfl
theorem q13:((Rows.wholeServesRow.maps==(Tryz.f3.params.toList++(OpenSpec.ofChange Rows.wholeServesSpec).bare.plain.varTypes prog).any (prog.mapsRec ·)))=true:=by kernel_rfl
theorem q14:((Rows.wholeServesRow.ifaces==(Tryz.f3.params.toList++(OpenSpec.ofChange Rows.wholeServesSpec).bare.plain.varTypes prog).any (prog.ifacesRec ·)))=true:=by kernel_rfl
theorem q15:((Rows.wholeServesRow.mapsOut==prog.mapsAmong Tryz.f3.resultTypes.toList))=true:=by kernel_rfl
theorem q16:((Rows.wholeServesRow.loops==(Tryz.f3.params.toList++(OpenSpec.ofChange Rows.wholeServesSpec).bare.plain.varTypes prog).any (prog.loopsFrom ·)))=true:=by kernel_rfl
theorem q17:((Rows.wholeServesRow.wideKeys==(Tryz.f3.params.toList++(OpenSpec.ofChange Rows.wholeServesSpec).bare.plain.varTypes prog++Tryz.f3.resultTypes.toList).any (prog.wideKeysFrom ·)))=true:=by kernel_rfl
theorem q18:((OpenSpec.ofChange Rows.wholeServesSpec).bare.vars.all (prog.varReadable ·))=true:=by kernel_rfl
theorem q19:(Tryz.f3.resultTypes.all (λt=>prog.readableRec t&&decide (t<prog.types.size)))=true:=by kernel_rfl
theorem q20:((Rows.wholeServesRow.ifacesOut==Tryz.f3.resultTypes.toList.any (prog.ifacesRec ·)))=true:=by kernel_rfl
theorem q21:((Rows.wholeServesRow.loopsOut==Tryz.f3.resultTypes.toList.any (prog.loopsFrom ·)))=true:=by kernel_rfl
theorem q22:((Rows.wholeServesRow.plainKeys==prog.plainKeys))=true:=by kernel_rfl
theorem q23:(Rows.wholeServesRow.shortTexts.isNone)=true:=by kernel_rfl
theorem q24:(prog.stopsHeard)=true:=by kernel_rfl
theorem q25:(prog.mayEnter)=true:=by kernel_rfl
theorem q26:((Rows.wholeServesRow.lifted==prog.liftsFinal))=true:=by kernel_rfl
theorem q27:((prog.make==some Rows.wholeServesRow.make))=true:=by kernel_rfl
theorem q28:((Rows.wholeServesRow.kinds==(if Rows.wholeServesRow.domain.isEmpty then[]else Tryz.f3.params.toList.map λt=>match prog.underlying t with|some (.int k)=>some k|_=>none)))=true:=by kernel_rfl
theorem q29:((Rows.wholeServesRow.pinned==Rows.wholeServesRow.pinnedBy))=true:=by kernel_rfl
theorem q30:((Rows.wholeServesRow.veiled==(Tryz.f3.params.toList++(OpenSpec.ofChange Rows.wholeServesSpec).bare.plain.varTypes prog++Tryz.f3.resultTypes.toList).any (prog.veiledRec ·)))=true:=by kernel_rfl
theorem q31:(Rows.wholeServesRow.veiledFits prog Tryz.f3.params.toList (Tryz.f3.params.toList++(OpenSpec.ofChange Rows.wholeServesSpec).bare.plain.varTypes prog++Tryz.f3.resultTypes.toList))=true:=by kernel_rfl
theorem closed:joinedFacts prog 3 Tryz.f3 (OpenSpec.ofChange Rows.wholeServesSpec).bare Rows.wholeServesRow=true:=by
 unfold joinedFacts
 exact Vc (Vc (Vc (Vc (Vc (Vc (Vc (Vc (Vc (Vc (Vc (Vc (Vc (Vc (Vc (Vc (Vc (Vc (Vc (Vc (Vc (Vc (Vc (Vc (Vc (Vc (Vc (Vc (Vc (Vc (Vc q0 q1) q2) q3) q4) q5) q6) q7) q8) q9) q10) q11) q12) q13) q14) q15) q16) q17) q18) q19) q20) q21) q22) q23) q24) q25) q26) q27) q28) q29) q30) q31
theorem said:Rows.WholeServesSaid:=
 OpenClaim.holds_of_cond 3 Tryz.f3 rfl rfl rfl rfl rfl rfl rfl ⟨rfl,rfl,rfl,rfl,rfl⟩ rfl rfl rfl rfl rfl (by kernel_rfl) func3 closed
  (of_decide_eq_true (by kernel_rfl)) (by unfold Func.isWrapper;first|(rw[if_pos (by decide+kernel)];kernel_rfl)|(rw[if_neg (by decide+kernel)];exact⟨rfl,rfl⟩))
  (λos started H enc _ F=>by rw[OpenClaim.pre_eq_preRow];exact lifted os started H enc F)
theorem plain(f:FuncId)(fn:Func)(hf:Tryz.pinned.checked.prog.funcNamed "quartermaster/quartermastertop.WholeServes"=some f)(hfn:Tryz.pinned.checked.prog.funcs[f]?=some fn):
  false=Tryz.pinned.checked.prog.looks []/\∀(j:Nat) t,fn.params[j]?=some t->Tryz.pinned.checked.prog.wantsStandIn t=false:=by
 obtain rfl:f=3:=Option.some.inj ((show prog.funcNamed "quartermaster/quartermastertop.WholeServes"=some 3 by kernel_rfl).symm.trans hf) |>.symm
 obtain rfl:fn=Tryz.f3:=(Option.some.inj (func3.symm.trans hfn)).symm
 refine⟨by kernel_rfl,λj t ht=>?_⟩
 rw[Tryz.params3]at ht
 have ht':t=5\/t=22\/t=23:=by have:=Array.mem_of_getElem? ht;simpa using this
 rcases ht' with rfl|rfl|rfl
 ·exact(show prog.wantsStandIn 5=false by kernel_rfl)
 ·exact(show prog.wantsStandIn 22=false by kernel_rfl)
 ·exact(show prog.wantsStandIn 23=false by kernel_rfl)
theorem card:Rows.WholeServesCardSaid:=
 Claim7.holds_tied_plain_at .later [] _ _ _ _ said (λ_ h=>by cases h) (by kernel_rfl) (λ_ h=>by cases h) wholeServes_row_tie rfl ⟨rfl,rfl⟩ (by kernel_rfl) rfl plain (by kernel_rfl)
end Go.Proofs.YtmlidmbehcclbaaGreatDoor.wholeServes
